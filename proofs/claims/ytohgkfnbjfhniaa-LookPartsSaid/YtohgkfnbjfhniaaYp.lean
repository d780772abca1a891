/-
  A part of bytes in a dump, in plain words: for LookParts.
-/
import Derived.Test.YtohgkfnbjfhniaaYa
namespace Go.Proofs.Ytohgkfnbjfhniaa
open Go.RowKit

/-- Bytes in a word, the least one first. -/
def packW : List UInt8 → Nat
  | [] => 0
  | c :: r => c.toNat + 256 * packW r

theorem packW_lt : ∀ l : List UInt8, packW l < 256 ^ l.length
  | [] => by simp [packW]
  | c :: r => by
    have := packW_lt r
    have := c.toNat_lt
    simp only [packW, List.length_cons, Nat.pow_succ]
    omega

theorem pack_zero (k : Nat) : ((0 / 256 ^ k % 256).toUInt8) = 0 := by simp

theorem pack_bytes : ∀ (m : Nat) (l : List UInt8), l.length ≤ m → ((List.range m).map fun k => (packW l / 256 ^ k % 256).toUInt8) = l ++ List.replicate (m - l.length) 0
  | m, [], _ => by
    simp only [packW, List.length_nil, Nat.sub_zero, List.nil_append]
    apply List.ext_getElem
    · simp
    · intro i h1 h2; simp
  | 0, c :: r, h => by simp at h
  | m + 1, c :: r, h => by
    have ih := pack_bytes m r (by simpa using h)
    rw [List.range_succ_eq_map, List.map_cons, List.map_map]
    have e0 : (packW (c :: r) / 256 ^ 0 % 256).toUInt8 = c := by
      have := c.toNat_lt
      have e : packW (c :: r) / 256 ^ 0 % 256 = c.toNat := by simp only [packW, Nat.pow_zero, Nat.div_one]; omega
      rw [e]; simp
    have e1 : ((fun k => (packW (c :: r) / 256 ^ k % 256).toUInt8) ∘ Nat.succ) = fun k => (packW r / 256 ^ k % 256).toUInt8 := by
      funext k
      have := c.toNat_lt
      have e : packW (c :: r) / 256 ^ (k + 1) = packW r / 256 ^ k := by
        rw [Nat.pow_succ, Nat.mul_comm, ← Nat.div_div_eq_div_mul]
        congr 1
        simp only [packW]; omega
      simp only [Function.comp, Nat.succ_eq_add_one, e]
    rw [e0, e1, ih]
    simp

/-- The words of bytes. -/
def wordB (b : List UInt8) (i : Nat) : Nat := packW ((b.drop (8 * i)).take 8)
def wordsB (b : List UInt8) (n : Nat) : List Nat := (List.range n).map (wordB b)

theorem wordB_lt (b : List UInt8) (i : Nat) : wordB b i < 18446744073709551616 := by
  have h := packW_lt ((b.drop (8 * i)).take 8)
  have hl : ((b.drop (8 * i)).take 8).length ≤ 8 := List.length_take_le _ _
  have := Nat.pow_le_pow_right (n := 256) (by omega) hl
  unfold wordB
  omega

theorem words_bytes : ∀ (n : Nat) (b : List UInt8), b.length ≤ 8 * n → bytesOf (wordsB b n) = b ++ List.replicate (8 * n - b.length) 0
  | 0, b, h => by
    have : b = [] := List.eq_nil_of_length_eq_zero (by omega)
    subst this; rfl
  | n + 1, b, h => by
    have ih := words_bytes n (b.drop 8) (by rw [List.length_drop]; omega)
    have e : wordsB b (n + 1) = packW (b.take 8) :: wordsB (b.drop 8) n := by
      unfold wordsB
      rw [List.range_succ_eq_map, List.map_cons, List.map_map]
      have e0 : wordB b 0 = packW (b.take 8) := by simp [wordB]
      rw [e0]
      congr 1
      apply List.map_congr_left
      intro i _
      simp only [Function.comp, wordB, List.drop_drop, Nat.succ_eq_add_one]
      rw [show 8 * (i + 1) = 8 + 8 * i by omega]
    have e2 : bytesOf (packW (b.take 8) :: wordsB (b.drop 8) n) = ((List.range 8).map fun k => (packW (b.take 8) / 256 ^ k % 256).toUInt8) ++ bytesOf (wordsB (b.drop 8) n) := by simp [bytesOf]
    rw [e, e2, pack_bytes 8 _ (List.length_take_le _ _), ih]
    by_cases hl : 8 ≤ b.length
    · rw [List.length_take, Nat.min_eq_left hl, Nat.sub_self, List.replicate_zero, List.append_nil, ← List.append_assoc, List.take_append_drop, List.length_drop]
      congr 2
      omega
    · rw [List.take_of_length_le (by omega), List.drop_eq_nil_of_le (by omega)]
      simp only [List.length_nil, List.nil_append, Nat.sub_zero, List.append_assoc, List.replicate_append_replicate]
      congr 2
      omega

theorem termP_at {x : Nat} (hp : plainP x = true) (ht : tagW x = 4 ∨ tagW x = 5) {asks : Bool} {S : List Slt} {m : List Frg} {f left : Nat} (hl : left ≠ 0) :
    termP asks S m (f + 1) left x = (objP m (loadW x) (tagW x)).bind (objT (termP asks S m f) asks S m (left - 1)) := by
  rw [termP, if_neg (fun q => by rcases q with q | q; rw [hp] at q; cases q; exact hl q), if_neg (by omega), if_neg (by omega), if_neg (by omega), if_neg (by omega)]

section
variable (b : List UInt8) (f m : Nat)

def nB : Nat := (b.length + 7) / 8
/-- The words of the two objects. -/
def l1B : List Nat := (((nB b + 1) * 8 + 3) * 8 + 6) :: b.length :: wordsB b (nB b)
def l2B : List Nat := [238, 76, f, m]
def pB : Nat := (11 + nB b) * 8 + 4
def prtD : Dmp := ⟨(9, l1B b ++ l2B f m), (0, []), ((nB b + 6 : Nat) : Int), 0, [], [76, pB b], []⟩

theorem l1B_length : (l1B b).length = nB b + 2 := by simp [l1B, wordsB]

theorem bytesW_l1 (hl : b.length ≤ 64) : bytesW (l1B b) = some b := by
  have hw : bytesOf (wordsB b (nB b)) = b ++ List.replicate (8 * nB b - b.length) 0 := words_bytes (nB b) b (by unfold nB; omega)
  have h2 : (l1B b).drop 2 = wordsB b (nB b) := rfl
  have h1 : (l1B b).getD 1 0 = b.length := rfl
  unfold bytesW
  rw [h1, h2, hw, l1B_length, if_neg (by unfold nB; omega)]
  rw [List.drop_left', List.take_left']
  · rw [if_pos]
    rw [List.all_replicate]
    simp
  · rfl
  · rfl

theorem prt_words (a n : Int) : wordsP (prtD b f m).mem a n = if inP 9 (nB b + 6) a = true then cutP (9, l1B b ++ l2B f m) a n else none := by
  have hm : (prtD b f m).mem = [(9, l1B b ++ l2B f m), (0, [])] := rfl
  have hl : (l1B b ++ l2B f m).length = nB b + 6 := by rw [List.length_append, l1B_length]; rfl
  rw [hm]
  unfold wordsP
  rw [hl]
  split
  · rfl
  · unfold wordsP
    rw [if_neg (by unfold inP; simp)]
    rfl

theorem cut_first {l r : List Nat} {k : Int} (hk : k = l.length) : cutP (9, l ++ r) 9 k = some l := by
  subst hk
  unfold cutP
  rw [if_pos (by simp; omega)]
  simp

theorem cut_last {l r : List Nat} {a k : Int} (ha : a = 9 + l.length) (hk : k = r.length) : cutP (9, l ++ r) a k = some r := by
  subst ha hk
  unfold cutP
  rw [if_pos (by simp; omega)]
  simp only
  rw [show (9 + (l.length : Int) - 9).toNat = l.length by omega]
  simp

theorem head_1 (hl : b.length ≤ 64) : headP (((nB b + 1) * 8 + 3) * 8 + 6) = some (3, ((nB b + 1 : Nat) : Int)) := by
  have hn : nB b ≤ 8 := by unfold nB; omega
  unfold headP tagW
  rw [if_pos (by omega)]
  congr 2
  · omega
  · omega

theorem headAt_1 (hl : b.length ≤ 64) : headAt (prtD b f m).mem 9 = some (3, l1B b) := by
  unfold headAt
  rw [prt_words, if_pos (by unfold inP; simp; omega)]
  have e1 : cutP (9, l1B b ++ l2B f m) 9 1 = some [((nB b + 1) * 8 + 3) * 8 + 6] := by
    have := cut_first (l := [((nB b + 1) * 8 + 3) * 8 + 6]) (r := b.length :: wordsB b (nB b) ++ l2B f m) (k := 1) rfl
    simpa [l1B] using this
  rw [e1, Option.bind_some]
  simp only [List.getD_cons_zero, head_1 b hl, Option.bind_some]
  rw [prt_words, if_pos (by unfold inP; simp; omega), cut_first (by rw [l1B_length]; omega)]
  rfl

theorem headAt_2 : headAt (prtD b f m).mem (11 + nB b) = some (5, l2B f m) := by
  unfold headAt
  have hin : inP 9 (nB b + 6) (11 + nB b) = true := by unfold inP; simp; omega
  rw [prt_words, if_pos hin]
  have e1 : cutP (9, l1B b ++ l2B f m) (11 + nB b) 1 = some [238] := by
    unfold cutP
    have hl : (l1B b ++ l2B f m).length = nB b + 6 := by rw [List.length_append, l1B_length]; rfl
    simp only
    rw [if_pos (by rw [hl]; omega), show (11 + (nB b : Int) - 9).toNat = (l1B b).length by rw [l1B_length]; omega, List.drop_left']
    · rfl
    · rfl
  rw [e1, Option.bind_some]
  rw [show headP ([238].getD 0 0) = some (5, 3) by decide, Option.bind_some]
  have e2 : cutP (9, l1B b ++ l2B f m) (11 + nB b) (3 + 1) = some (l2B f m) := cut_last (by rw [l1B_length]; omega) rfl
  simp only
  rw [prt_words, if_pos hin, e2]
  rfl

theorem obj_1 (hl : b.length ≤ 64) : objP (prtD b f m).mem 9 4 = some (3, l1B b) := by
  unfold objP
  rw [if_neg (by decide), headAt_1 b f m hl, Option.bind_some]
  have hr : rightP (prtD b f m).mem 3 (l1B b) = true := by
    unfold rightP rightFlat
    rw [if_neg (by decide), if_neg (by decide), if_neg (by decide), if_neg (by decide), if_pos rfl, bytesW_l1 b hl, l1B_length]
    simp
  rw [if_pos hr]

theorem len_76 (hl : b.length ≤ 64) : lengthP (prtD b f m).mem 76 = some b.length := by
  have hr : rightFlat 3 (l1B b) = true := by
    unfold rightFlat
    rw [if_neg (by decide), if_neg (by decide), if_neg (by decide), if_pos rfl, bytesW_l1 b hl, l1B_length]
    simp
  unfold lengthP
  rw [show toP 76 = some (9, 4) by decide, Option.bind_some]
  simp only [if_true]
  rw [headAt_1 b f m hl, Option.bind_some, if_pos ⟨rfl, hr⟩]
  rfl

theorem obj_2 (hl : b.length ≤ 64) : objP (prtD b f m).mem (11 + nB b) 4 = if f + m ≤ b.length then some (5, l2B f m) else none := by
  unfold objP
  rw [if_neg (by decide), headAt_2, Option.bind_some]
  have hr : rightP (prtD b f m).mem 5 (l2B f m) = decide (f + m ≤ b.length) := by
    unfold rightP
    rw [if_pos rfl, show (l2B f m).getD 1 0 = 76 from rfl, len_76 b f m hl]
    show (decide (4 = 4) && (decide (f ≤ b.length) && decide (m ≤ b.length - f))) = _
    by_cases h : f + m ≤ b.length
    · simp [h]; omega
    · simp [h]; omega
  rw [hr]
  by_cases h : f + m ≤ b.length
  · rw [if_pos (by simpa using h), if_pos h]
  · rw [if_neg (by simpa using h), if_neg h]

theorem plain_pB (hl : b.length ≤ 64) : plainP (pB b) = true ∧ tagW (pB b) = 4 ∧ loadW (pB b) = 11 + nB b := by
  have hn : nB b ≤ 8 := by unfold nB; omega
  unfold pB
  generalize nB b = n at *
  have : n = 0 ∨ n = 1 ∨ n = 2 ∨ n = 3 ∨ n = 4 ∨ n = 5 ∨ n = 6 ∨ n = 7 ∨ n = 8 := by omega
  rcases this with rfl | rfl | rfl | rfl | rfl | rfl | rfl | rfl | rfl <;> decide

theorem to_pB (hl : b.length ≤ 64) : toP (pB b) = some (11 + (nB b : Int), (4 : Int)) := by
  obtain ⟨h1, h2, h3⟩ := plain_pB b hl
  unfold toP
  rw [if_pos ⟨h1, Or.inl h2⟩, h2, h3]
  rfl

/-- Bytes as a text. -/
abbrev txB (b : List UInt8) : ByteArray := ⟨b.toArray⟩

theorem bin_read {left : Nat} {s : ByteArray} (hs : s.size ≤ 64) (hl : 8 ≤ left) : binT left s = some (.mk 9 0 false [] 0 s [], left - s.size / 8) := by
  unfold binT; rw [if_pos (by omega)]

theorem read_1 (hl : b.length ≤ 64) : readP true [] (prtD b f m).mem 76 = some (.mk 9 0 false [] 0 (txB b) []) := by
  unfold readP
  rw [termP_at (x := 76) (by decide) (by decide) (by decide), show loadW 76 = 9 by decide, show ((tagW 76 : Nat) : Int) = 4 by decide, obj_1 b f m hl, Option.bind_some]
  unfold objT
  simp only
  rw [if_neg (by decide), if_neg (by decide), if_pos trivial]
  unfold bytesB
  rw [bytesW_l1 b hl, Option.map_some, Option.bind_some, bin_read (by simpa [ByteArray.size] using hl) (by omega)]
  rfl

theorem read_2 (hl : b.length ≤ 64) : readP true [] (prtD b f m).mem (pB b) = if f + m ≤ b.length then some (.mk 9 0 false [] 0 ((txB b).extract f (f + m)) []) else none := by
  obtain ⟨h1, h2, h3⟩ := plain_pB b hl
  unfold readP
  rw [termP_at h1 (Or.inl h2) (by decide), h3, h2, show ((4 : Nat) : Int) = 4 from rfl, obj_2 b f m hl]
  by_cases h : f + m ≤ b.length
  · rw [if_pos h, if_pos h, Option.bind_some]
    unfold objT
    simp only
    rw [if_neg (by decide), if_neg (by decide), if_neg (by decide), if_neg (by decide), if_pos trivial]
    have hp : partP true [] (prtD b f m).mem (l2B f m) = some ((txB b).extract f (f + m)) := by
      unfold partP
      rw [show (l2B f m).getD 1 0 = 76 from rfl, show toP 76 = some (9, 4) by decide]
      simp only
      rw [obj_1 b f m hl]
      simp only
      rw [if_pos trivial]
      unfold bytesB
      rw [bytesW_l1 b hl]
      rfl
    have hs : ((txB b).extract f (f + m)).size ≤ 64 := by
      rw [ByteArray.size_extract]
      have : (txB b).size = b.length := by simp [ByteArray.size]
      omega
    rw [hp, Option.bind_some, bin_read hs (by omega)]
    rfl
  · rw [if_neg h, if_neg h]; rfl

theorem prt_regions (hl : b.length ≤ 64) : regionsP (prtD b f m) = true := by
  have hn : (l1B b ++ l2B f m).length = nB b + 6 := by rw [List.length_append, l1B_length]; rfl
  have hm : (prtD b f m).mem = [(9, l1B b ++ l2B f m), (0, [])] := rfl
  unfold regionsP
  rw [hm]
  have e3 : apF ((0 : Int), ([] : List Nat)) (9, l1B b ++ l2B f m) = true := by unfold apF apartP; simp
  have e1 : okA ((9 : Int), l1B b ++ l2B f m) = true := by unfold okA; simp
  have e2 : okA ((0 : Int), ([] : List Nat)) = true := by unfold okA; simp
  have e4 : marksP (prtD b f m) = true := by
    unfold marksP
    show (decide (((l1B b ++ l2B f m).length : Int) ≤ ((nB b + 6 : Nat) : Int)) && decide ((0 : Int) ≤ 0) && decide ((0 : Int) ≤ ((l1B b ++ l2B f m).length : Int))) = true
    rw [hn]; simp; omega
  simp [regL, e1, e2, e3, e4]

theorem prt_roots (hl : b.length ≤ 64) : rootsP true [] (prtD b f m) = decide (f + m ≤ b.length) := by
  unfold rootsP readsP
  show ([76, pB b].all fun x => (readP true [] (prtD b f m).mem x).isSome) = _
  simp only [List.all_cons, List.all_nil, Bool.and_true, read_1 b f m hl, read_2 b f m hl, Option.isSome_some, Bool.true_and]
  by_cases h : f + m ≤ b.length <;> simp [h]

theorem lead_1 : leadW 3 (l1B b) = [] := rfl
theorem lead_2 : leadW 5 (l2B f m) = [76] := rfl

theorem prt_reach (hl : b.length ≤ 64) {s : Spt} (h : Reach (prtD b f m).mem [76, pB b] s) : s = (9, 4) ∨ s = (11 + (nB b : Int), 4) := by
  induction h with
  | @root x s hx ht _ =>
    rcases List.mem_cons.1 hx with rfl | hx
    · rw [show toP 76 = some (9, 4) by decide] at ht; exact Or.inl (Option.some.inj ht).symm
    · rw [List.mem_singleton] at hx; subst hx
      rw [to_pB b hl] at ht; exact Or.inr (Option.some.inj ht).symm
  | @step s s' o x _ ho hx ht _ ih =>
    rcases ih with rfl | rfl
    · rw [obj_1 b f m hl] at ho; cases ho; rw [lead_1] at hx; cases hx
    · simp only at ho
      rw [obj_2 b f m hl] at ho
      split at ho
      · cases ho
        rw [lead_2, List.mem_singleton] at hx; subst hx
        rw [show toP 76 = some (9, 4) by decide] at ht; exact Or.inl (Option.some.inj ht).symm
      · cases ho

theorem prt_right (hl : b.length ≤ 64) (h : f + m ≤ b.length) : WhyP (prtD b f m) [] := by
  refine ⟨prt_regions b f m hl, by rw [prt_roots b f m hl]; simpa using h, rfl, rfl, fun s hs hh => ?_⟩
  exfalso
  unfold isH at hh
  rcases prt_reach b f m hl hs with rfl | rfl
  · simp only at hh
    rw [obj_1 b f m hl] at hh; cases hh
  · simp only at hh
    rw [obj_2 b f m hl, if_pos h] at hh; cases hh

theorem prt_wrong (hl : b.length ≤ 64) (h : ¬ f + m ≤ b.length) : whyT (prtD b f m) [] = ⟨#[114, 111, 111, 116, 115]⟩ :=
  whyT_2 (prt_regions b f m hl) (by rw [prt_roots b f m hl]; simpa using h)

theorem prt_live (hl : b.length ≤ 64) (h : f + m ≤ b.length) : liveP (prtD b f m).mem (prtD b f m).roots = nB b + 6 := by
  have hr : ReachL (prtD b f m).mem [76, pB b] [(9, 4), (11 + (nB b : Int), 4)] := by
    refine ⟨by simp; omega, fun s => ⟨fun hs => ?_, fun hs => ?_⟩⟩
    · rcases List.mem_cons.1 hs with rfl | hs
      · exact .root (x := 76) (by simp) (by decide) (by rw [obj_1 b f m hl]; rfl)
      · rw [List.mem_singleton] at hs; subst hs
        exact .root (x := pB b) (by simp) (to_pB b hl) (by simp only; rw [obj_2 b f m hl, if_pos h]; rfl)
    · rcases prt_reach b f m hl hs with rfl | rfl <;> simp
  rw [show (prtD b f m).roots = [76, pB b] from rfl, liveP_of hr]
  have e1 : objW (prtD b f m).mem (9, 4) = nB b + 2 := by
    unfold objW
    simp only
    rw [obj_1 b f m hl]
    exact l1B_length b
  have e2 : objW (prtD b f m).mem (11 + (nB b : Int), 4) = 4 := by
    unfold objW
    simp only
    rw [obj_2 b f m hl, if_pos h]
    rfl
  simp [sumP, e1, e2]

theorem prt_small (hl : b.length ≤ 64) : DmOk (prtD b f m) := by
  have hn : (l1B b ++ l2B f m).length = nB b + 6 := by rw [List.length_append, l1B_length]; rfl
  refine ⟨Nat.zero_le _, ?_, Nat.le_add_right 2 998, Nat.zero_le _⟩
  have : wordsN (prtD b f m).mem = (l1B b ++ l2B f m).length + 0 := by simp [wordsN, Dmp.mem, prtD]
  rw [this, hn]
  unfold nB
  omega

end
end Go.Proofs.Ytohgkfnbjfhniaa

/- What the scanner computes, as plain functions on lists of bytes. -/
import GoSem.Core.Utf8
namespace Go.Proofs.YtadenjlehhopmaaDoor
set_option linter.unusedSimpArgs false
set_option linter.unusedVariables false
namespace Lx
abbrev Bs := List UInt8
def bs (s : ByteArray) : Bs := s.data.toList
def str (l : Bs) : ByteArray := ⟨l.toArray⟩
theorem bs_str (l : Bs) : bs (str l) = l := by simp [bs, str]
theorem str_bs (s : ByteArray) : str (bs s) = s := by simp [bs, str]
theorem bs_length (s : ByteArray) : (bs s).length = s.size := Array.length_toList
theorem str_size (l : Bs) : (str l).size = l.length := by simp [str, ByteArray.size]
theorem bs_extract (s : ByteArray) (a e : Nat) : bs (s.extract a e) = ((bs s).drop a).take (e - a) := by
  simp [bs, ByteArray.data_extract, Array.toList_extract, List.extract_eq_take_drop]
theorem bs_tail (s : ByteArray) (a : Nat) : bs (s.extract a s.size) = (bs s).drop a := by
  rw [bs_extract, List.take_of_length_le]
  simp [bs_length]
theorem bs_inj {s t : ByteArray} (h : bs s = bs t) : s = t := by rw [← str_bs s, h, str_bs]

/-- The rune at the head of the bytes, and its width. -/
def decL (l : Bs) : Nat × Nat :=
  let at' (k : Nat) : Nat := (l.getD k 0).toNat
  let cont (k : Nat) : Bool := decide (k < l.length) && at' k / 64 == 2
  let b0 := at' 0
  if b0 < 0x80 then (b0, 1)
  else if b0 / 32 == 6 && cont 1 then
    let c := (b0 % 32) * 64 + at' 1 % 64
    if c ≥ 0x80 then (c, 2) else (65533, 1)
  else if b0 / 16 == 14 && cont 1 && cont 2 then
    let c := (b0 % 16) * 4096 + (at' 1 % 64) * 64 + at' 2 % 64
    if c ≥ 0x800 && Utf8.valid c then (c, 3) else (65533, 1)
  else if b0 / 8 == 30 && cont 1 && cont 2 && cont 3 then
    let c := (b0 % 8) * 262144 + (at' 1 % 64) * 4096 + (at' 2 % 64) * 64 + at' 3 % 64
    if c ≥ 0x10000 && Utf8.valid c then (c, 4) else (65533, 1)
  else (65533, 1)

theorem get!_drop (s : ByteArray) (i k : Nat) : s.get! (i + k) = ((bs s).drop i).getD k 0 := by
  show s.data[i + k]! = _
  rw [List.getD_eq_getElem?_getD, List.getElem?_drop]
  simp only [bs, Array.getElem!_eq_getD]
  simp [Array.getD_eq_getD_getElem?]
  rfl

theorem decode_eq (s : ByteArray) (i : Nat) : Utf8.decode s i = decL ((bs s).drop i) := by
  have h1 : ∀ k, (s.get! (i + k)).toNat = (((bs s).drop i).getD k 0).toNat := fun k => by rw [get!_drop]
  have h2 : ∀ k, decide (i + k < s.size) = decide (k < ((bs s).drop i).length) := fun k => by
    congr 1
    rw [List.length_drop, bs_length]
    exact propext ⟨fun h => by omega, fun h => by omega⟩
  unfold Utf8.decode decL
  simp only [h1, h2, Utf8.runeError]

theorem decL_width (l : Bs) : 1 ≤ (decL l).2 ∧ (decL l).2 ≤ 4 ∧ (l ≠ [] → (decL l).2 ≤ l.length) := by
  have h0 : l ≠ [] → 1 ≤ l.length := fun h => by
    cases l with
    | nil => exact absurd rfl h
    | cons a t => simp
  unfold decL
  simp only []
  (repeat' split) <;> simp_all <;> omega

def letterR (r : Nat) : Bool := (97 ≤ r && r ≤ 122) || (65 ≤ r && r ≤ 90) || r == 95 || (128 ≤ r && r ≤ 1114111 && r != 65533 && Utf8.valid r)
def digitR (r : Nat) : Bool := 48 ≤ r && r ≤ 57
def partR (r : Nat) : Bool := letterR r || digitR r
def blankR (r : Nat) : Bool := r == 32 || r == 9 || r == 10 || r == 13
def inLineR (r : Nat) : Bool := r != 10

/-- How many bytes from the head on are of runes of that sort. -/
def runG (p : Nat → Bool) : Nat → Bs → Nat
  | 0, _ => 0
  | _ + 1, [] => 0
  | f + 1, b :: t => if p (decL (b :: t)).1 then (decL (b :: t)).2 + runG p f ((b :: t).drop (decL (b :: t)).2) else 0
def runL (p : Nat → Bool) (l : Bs) : Nat := runG p l.length l

theorem runG_fuel (p : Nat → Bool) : ∀ (f g : Nat) (l : Bs), l.length ≤ f → l.length ≤ g → runG p f l = runG p g l
  | 0, 0, _, _, _ => rfl
  | 0, g + 1, l, h, _ => by
    have : l = [] := List.eq_nil_of_length_eq_zero (by omega)
    subst this; rfl
  | f + 1, 0, l, _, h => by
    have : l = [] := List.eq_nil_of_length_eq_zero (by omega)
    subst this; rfl
  | f + 1, g + 1, [], _, _ => rfl
  | f + 1, g + 1, b :: t, h, h' => by
    simp only [runG]
    have hw := (decL_width (b :: t)).1
    rw [runG_fuel p f g ((b :: t).drop (decL (b :: t)).2) (by rw [List.length_drop]; simp only [List.length_cons] at *; omega) (by rw [List.length_drop]; simp only [List.length_cons] at *; omega)]

theorem runL_nil (p : Nat → Bool) : runL p [] = 0 := rfl
theorem runL_step (p : Nat → Bool) (l : Bs) (h : l ≠ []) : runL p l = if p (decL l).1 then (decL l).2 + runL p (l.drop (decL l).2) else 0 := by
  cases l with
  | nil => exact absurd rfl h
  | cons b t =>
    have hw := (decL_width (b :: t)).1
    unfold runL
    simp only [List.length_cons, runG]
    rw [runG_fuel p t.length ((b :: t).drop (decL (b :: t)).2).length ((b :: t).drop (decL (b :: t)).2) (by rw [List.length_drop]; simp only [List.length_cons]; omega) (Nat.le_refl _)]
theorem runL_le (p : Nat → Bool) : ∀ (n : Nat) (l : Bs), l.length ≤ n → runL p l ≤ l.length
  | 0, l, h => by
    have : l = [] := List.eq_nil_of_length_eq_zero (by omega)
    subst this; simp [runL_nil]
  | n + 1, l, h => by
    by_cases hl : l = []
    · subst hl; simp [runL_nil]
    · rw [runL_step p l hl]
      have hw := decL_width l
      split
      · have := runL_le p n (l.drop (decL l).2) (by rw [List.length_drop]; omega)
        rw [List.length_drop] at this
        have := hw.2.2 hl
        omega
      · omega
theorem runL_le' (p : Nat → Bool) (l : Bs) : runL p l ≤ l.length := runL_le p _ l (Nat.le_refl _)

/-! Numerals -/
def digR (r : Nat) : Option Nat := if 48 ≤ r ∧ r ≤ 57 then some (r - 48) else if 97 ≤ r ∧ r ≤ 102 then some (r - 87) else if 65 ≤ r ∧ r ≤ 70 then some (r - 55) else none
def sizeG (hex : Bool) : Nat → Nat → Bs → Option Nat
  | 0, n, _ => some n
  | _ + 1, n, [] => some n
  | f + 1, n, b :: t =>
    match digR (decL (b :: t)).1 with
    | none => none
    | some d => if d > 9 && !hex then none else
        sizeG hex f (if hex then (n * 16 + d) % 18446744073709551616 else min (10 * n + d) 18446744073709551615) ((b :: t).drop (decL (b :: t)).2)
def sizeL (hex : Bool) (n : Nat) (l : Bs) : Option Nat := sizeG hex l.length n l
def hexHead (l : Bs) : Bool := [48, 120].isPrefixOf l || [48, 88].isPrefixOf l
def sint (u : Nat) : Int := if u < 9223372036854775808 then u else (u : Int) - 18446744073709551616
/-- The number of a numeral, and its error. -/
def parseF (l : Bs) : Int × Int :=
  let rest := if hexHead l then l.drop 2 else l
  if rest = [] then (0, 4) else
  match sizeL (hexHead l) 0 rest with
  | none => (0, 4)
  | some u => if !hexHead l && u > 9223372036854775807 then (0, 14) else (sint u, 0)

/-! Strings -/
def hexD (b : UInt8) : Option Nat := if 48 ≤ b.toNat ∧ b.toNat ≤ 57 then some (b.toNat - 48) else if 97 ≤ b.toNat ∧ b.toNat ≤ 102 then some (b.toNat - 87) else if 65 ≤ b.toNat ∧ b.toNat ≤ 70 then some (b.toNat - 55) else none
def hexG : Nat → Bs → Nat → Nat → Nat × Nat
  | 0, _, n, k => (n, k)
  | _ + 1, [], n, k => (n, k)
  | m + 1, b :: t, n, k => match hexD b with | none => (n, k) | some d => hexG m t (16 * n + d) (k + 1)
def decG : Nat → Bs → Nat → Nat → Nat × Nat
  | 0, _, n, k => (n, k)
  | _ + 1, [], n, k => (n, k)
  | m + 1, b :: t, n, k => if 48 ≤ b.toNat ∧ b.toNat ≤ 57 then decG m t (10 * n + (b.toNat - 48)) (k + 1) else (n, k)
def plainB (c : UInt8) : UInt8 := if c = 110 then 10 else if c = 116 then 9 else if c = 114 then 13 else if c = 92 ∨ c = 34 ∨ c = 39 then c else 0
inductive Esc where
  | ended
  | unfit
  | ok (bytes : Bs) (len : Nat)
/-- The escape behind a backslash; its length counts the backslash. -/
def escF : Bs → Esc
  | [] => .ended
  | c :: t =>
    if plainB c ≠ 0 then .ok [plainB c] 2
    else if c = 120 then
      if (hexG 2 t 0 0).2 < 2 then .unfit else .ok [UInt8.ofNat (hexG 2 t 0 0).1] 4
    else if c = 117 ∧ t.head? = some 123 then
      if (hexG 8 t.tail 0 0).2 = 0 ∨ Utf8.valid (hexG 8 t.tail 0 0).1 = false ∨ (t.tail.drop (hexG 8 t.tail 0 0).2).head? ≠ some 125 then .unfit
      else .ok (bs (Utf8.encode (hexG 8 t.tail 0 0).1)) (4 + (hexG 8 t.tail 0 0).2)
    else if (decG 3 (c :: t) 0 0).2 = 0 ∨ (decG 3 (c :: t) 0 0).1 > 255 then .unfit
    else .ok [UInt8.ofNat (decG 3 (c :: t) 0 0).1] (1 + (decG 3 (c :: t) 0 0).2)
inductive TextR where
  | bad (code : Int) (rel : Nat)
  | ok (val : Bs) (len : Nat)
/-- The string whose opening quote q stands i bytes ahead; what was read is acc. -/
def textG (q : UInt8) : Nat → Bs → Bs → Nat → TextR
  | 0, _, _, _ => .bad 4 0
  | _ + 1, [], _, _ => .bad 4 0
  | f + 1, b :: t, acc, i =>
    if b = 10 then .bad 4 0
    else if b = q then (if acc.length > 10000 then .bad 14 0 else .ok acc (i + 1))
    else if b = 92 then
      match escF t with
      | .ended => .bad 4 0
      | .unfit => .bad 4 i
      | .ok e n => textG q f ((b :: t).drop n) (acc ++ e) (i + n)
    else textG q f t (acc ++ [b]) (i + 1)

/-! Words and signs -/
def wordList : List Bs := [[97, 110, 100], [98, 114, 101, 97, 107], [100, 111], [101, 108, 115, 101], [101, 108, 115, 101, 105, 102], [101, 110, 100], [102, 97, 108, 115, 101], [102, 111, 114], [102, 117, 110, 99, 116, 105, 111, 110], [105, 102], [105, 110], [108, 111, 99, 97, 108], [110, 105, 108], [110, 111, 116], [111, 114], [114, 101, 116, 117, 114, 110], [116, 104, 101, 110], [116, 114, 117, 101], [119, 104, 105, 108, 101]]
def isWordF (l : Bs) : Bool := wordList.contains l
def signList : List Bs := [[61, 61], [126, 61], [60, 61], [62, 61], [47, 47], [46, 46], [43], [45], [42], [37], [60], [62], [61], [35], [40], [41], [123], [125], [91], [93], [59], [44], [46]]
def signF (l : Bs) : Option Bs := signList.find? fun s => s.isPrefixOf l

/-- What stands next, blanks left out. -/
inductive Step where
  | done
  | skip (n : Nat)
  | tok (kind : Int) (text : Bs) (n : Int) (len : Nat)
  | bad (code : Int) (rel : Nat)
def stepF (l : Bs) : Step :=
  if l = [] then .done
  else if [45, 45].isPrefixOf l then .skip (runL inLineR l)
  else if letterR (decL l).1 then
    let n := runL partR l
    if n > 40 then .bad 14 0 else .tok (if isWordF (l.take n) then 2 else 1) (l.take n) 0 n
  else if digitR (decL l).1 then
    let n := runL partR l
    if (parseF (l.take n)).2 ≠ 0 then .bad (parseF (l.take n)).2 0 else .tok 3 (l.take n) (parseF (l.take n)).1 n
  else if (decL l).1 = 34 ∨ (decL l).1 = 39 then
    match textG (UInt8.ofNat (decL l).1) l.length l.tail [] 1 with
    | .bad c r => .bad c r
    | .ok v k => .tok 4 v 0 k
  else match signF l with
    | none => .bad 4 0
    | some s => .tok 5 s 0 s.length

structure Tok where
  kind : Int
  text : Bs
  n : Int
  at_ : Nat
deriving DecidableEq

/-- The tokens from byte 'at_' on; the bytes from there on are l. -/
def scanG : Nat → Bs → Nat → List Tok → (Int × Int) ⊕ List Tok
  | 0, _, at_, acc => .inr (acc ++ [⟨6, [], 0, at_⟩])
  | f + 1, l, at_, acc =>
    let k := runL blankR l
    match stepF (l.drop k) with
    | .done => .inr (acc ++ [⟨6, [], 0, at_ + k⟩])
    | .skip n => scanG f ((l.drop k).drop n) (at_ + k + n) acc
    | .tok kind text n len => scanG f ((l.drop k).drop len) (at_ + k + len) (acc ++ [⟨kind, text, n, at_ + k⟩])
    | .bad c r => .inl (c, (at_ + k + r : Nat))
/-- Scan: a fault (number, place), or the tokens. -/
def scanF (l : Bs) : (Int × Int) ⊕ List Tok := if l.length > 20000 then .inl (14, -1) else scanG (l.length + 1) l 0 []
end Lx
end Go.Proofs.YtadenjlehhopmaaDoor

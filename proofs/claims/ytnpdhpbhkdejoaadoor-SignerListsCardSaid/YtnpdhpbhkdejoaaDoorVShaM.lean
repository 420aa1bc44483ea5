/- V: the sum of bytes, as a plain function. -/
import Derived.Test.YtnpdhpbhkdejoaaDoorVLib
set_option linter.unusedVariables false
set_option linter.unusedSimpArgs false
namespace Go.V

theorem ofInt_wrap (v : BitVec 32) : BitVec.ofInt 32 (IntKind.u32.wrap (v.toNat : Int)) = v := by
  have : IntKind.u32.wrap (v.toNat : Int) = (v.toNat : Int) := wrap32 (by have := v.isLt; omega)
  rw [this, BitVec.ofInt_natCast, BitVec.ofNat_toNat, BitVec.setWidth_eq]
theorem iand_eq (x y : Int) : iand .u32 x y = IntKind.u32.wrap ((BitVec.ofInt 32 x &&& BitVec.ofInt 32 y).toNat : Int) := rfl
theorem ior_eq (x y : Int) : ior .u32 x y = IntKind.u32.wrap ((BitVec.ofInt 32 x ||| BitVec.ofInt 32 y).toNat : Int) := rfl
theorem ixor_eq (x y : Int) : ixor .u32 x y = IntKind.u32.wrap ((BitVec.ofInt 32 x ^^^ BitVec.ofInt 32 y).toNat : Int) := rfl
theorem ior_comm32 (x y : Int) : ior .u32 x y = ior .u32 y x := by rw [ior_eq, ior_eq, BitVec.or_comm]
theorem ch_eq (e f g : Int) : ixor .u32 (iand .u32 e f) (iand .u32 (ixor .u32 4294967295 e) g) = ixor .u32 (iand .u32 e (ixor .u32 f g)) g := by
  simp only [iand_eq, ixor_eq, ofInt_wrap]
  congr 3
  rw [show BitVec.ofInt 32 4294967295 = BitVec.allOnes 32 from rfl]
  apply BitVec.eq_of_getLsbD_eq
  intro i hi
  simp only [BitVec.getLsbD_xor, BitVec.getLsbD_and, BitVec.getLsbD_allOnes, hi, decide_true]
  generalize (BitVec.ofInt 32 e).getLsbD i = a
  generalize (BitVec.ofInt 32 f).getLsbD i = b
  generalize (BitVec.ofInt 32 g).getLsbD i = c
  cases a <;> cases b <;> cases c <;> rfl
theorem maj_eq (a b c : Int) : ixor .u32 (ixor .u32 (iand .u32 a b) (iand .u32 a c)) (iand .u32 b c) = ior .u32 (iand .u32 a b) (iand .u32 c (ior .u32 a b)) := by
  simp only [iand_eq, ixor_eq, ior_eq, ofInt_wrap]
  congr 3
  apply BitVec.eq_of_getLsbD_eq
  intro i hi
  simp only [BitVec.getLsbD_xor, BitVec.getLsbD_and, BitVec.getLsbD_or]
  generalize (BitVec.ofInt 32 a).getLsbD i = x
  generalize (BitVec.ofInt 32 b).getLsbD i = y
  generalize (BitVec.ofInt 32 c).getLsbD i = z
  cases x <;> cases y <;> cases z <;> rfl
theorem wrap32_emod (x : Int) : IntKind.u32.wrap x = x % 4294967296 := by
  simp [IntKind.wrap, IntKind.signed, IntKind.bits]
theorem wrap_add (x y : Int) : IntKind.u32.wrap (IntKind.u32.wrap x + y) = IntKind.u32.wrap (x + y) := by
  simp only [wrap32_emod]; omega
def U32 (x : Int) : Prop := 0 ≤ x ∧ x ≤ 4294967295
theorem wrap_U32 (x : Int) : U32 (IntKind.u32.wrap x) := by unfold U32; rw [wrap32_emod]; omega

/-- a word turned right -/
def rotI (x : Int) (n : Int) : Int := ior .u32 (ishl .u32 x (32 - n)) (ishr .u32 x n)
/-- a word of four bytes -/
def wrd (b : List Int) (t : Nat) : Int := ior .u32 (ior .u32 (ior .u32 (ishl .u32 (IntKind.u32.wrap (b.getD (4 * t) 0)) 24) (ishl .u32 (IntKind.u32.wrap (b.getD (4 * t + 1) 0)) 16)) (ishl .u32 (IntKind.u32.wrap (b.getD (4 * t + 2) 0)) 8)) (IntKind.u32.wrap (b.getD (4 * t + 3) 0))
def nextw (w : List Int) (t : Nat) : Int :=
  IntKind.u32.wrap (IntKind.u32.wrap (IntKind.u32.wrap (w.getD (t - 16) 0 + ixor .u32 (ixor .u32 (rotI (w.getD (t - 15) 0) 7) (rotI (w.getD (t - 15) 0) 18)) (ishr .u32 (w.getD (t - 15) 0) 3)) + w.getD (t - 7) 0) +
    ixor .u32 (ixor .u32 (rotI (w.getD (t - 2) 0) 17) (rotI (w.getD (t - 2) 0) 19)) (ishr .u32 (w.getD (t - 2) 0) 10))
def wordsGo (b : List Int) : Nat → Nat → List Int → List Int
  | 0, _, w => w
  | m + 1, t, w => wordsGo b m (t + 1) (w.set t (wrd b t))
def schedGo : Nat → Nat → List Int → List Int
  | 0, _, w => w
  | m + 1, t, w => schedGo m (t + 1) (w.set t (nextw w t))
def schedW (b : List Int) : List Int := schedGo 48 16 (wordsGo b 16 0 (List.replicate 64 0))
def keyL : List Int := [1116352408, 1899447441, 3049323471, 3921009573, 961987163, 1508970993, 2453635748, 2870763221, 3624381080, 310598401, 607225278, 1426881987, 1925078388, 2162078206, 2614888103, 3248222580, 3835390401, 4022224774, 264347078, 604807628, 770255983, 1249150122, 1555081692, 1996064986, 2554220882, 2821834349, 2952996808, 3210313671, 3336571891, 3584528711, 113926993, 338241895, 666307205, 773529912, 1294757372, 1396182291, 1695183700, 1986661051, 2177026350, 2456956037, 2730485921, 2820302411, 3259730800, 3345764771, 3516065817, 3600352804, 4094571909, 275423344, 430227734, 506948616, 659060556, 883997877, 958139571, 1322822218, 1537002063, 1747873779, 1955562222, 2024104815, 2227730452, 2361852424, 2428436474, 2756734187, 3204031479, 3329325298]
def sOne (w : List Int) (t : Nat) (e f g h : Int) : Int :=
  IntKind.u32.wrap (IntKind.u32.wrap (IntKind.u32.wrap (IntKind.u32.wrap (h + ixor .u32 (ixor .u32 (rotI e 6) (rotI e 11)) (rotI e 25)) + ixor .u32 (iand .u32 e (ixor .u32 f g)) g) + keyL.getD t 0) + w.getD t 0)
def sTwo (a b c : Int) : Int := IntKind.u32.wrap (ixor .u32 (ixor .u32 (rotI a 2) (rotI a 13)) (rotI a 22) + ior .u32 (iand .u32 a b) (iand .u32 c (ior .u32 a b)))
def rounds (w : List Int) : Nat → Nat → Int → Int → Int → Int → Int → Int → Int → Int → List Int
  | 0, _, a, b, c, d, e, f, g, h => [a, b, c, d, e, f, g, h]
  | m + 1, t, a, b, c, d, e, f, g, h => rounds w m (t + 1) (IntKind.u32.wrap (sOne w t e f g h + sTwo a b c)) a b c (IntKind.u32.wrap (d + sOne w t e f g h)) e f g
def addGo (x : List Int) : Nat → Nat → List Int → List Int
  | 0, _, w => w
  | m + 1, t, w => addGo x m (t + 1) (w.set t (IntKind.u32.wrap (w.getD t 0 + x.getD t 0)))
/-- the words behind a block -/
def comp (ws b : List Int) : List Int :=
  addGo (rounds (schedW b) 64 0 (ws.getD 0 0) (ws.getD 1 0) (ws.getD 2 0) (ws.getD 3 0) (ws.getD 4 0) (ws.getD 5 0) (ws.getD 6 0) (ws.getD 7 0)) 8 0 ws
theorem addGo_len (x : List Int) : ∀ (m t : Nat) (w : List Int), (addGo x m t w).length = w.length
  | 0, _, w => rfl
  | m + 1, t, w => by rw [addGo, addGo_len x m]; simp
theorem comp_len (ws b : List Int) : (comp ws b).length = ws.length := addGo_len _ _ _ _
/-- the words behind all whole blocks -/
def absorb (h m : List Int) : List Int := if m.length < 64 then h else absorb (comp h (m.take 64)) (m.drop 64)
termination_by m.length
decreasing_by rw [List.length_drop]; omega
theorem absorb_short {h m : List Int} (hm : m.length < 64) : absorb h m = h := by rw [absorb, if_pos hm]
theorem absorb_long {h m : List Int} (hm : ¬ m.length < 64) : absorb h m = absorb (comp h (m.take 64)) (m.drop 64) := by rw [absorb, if_neg hm]
theorem absorb_len : ∀ (m h : List Int), (absorb h m).length = h.length := by
  intro m
  generalize hn : m.length = n
  induction n using Nat.strongRecOn generalizing m with
  | _ n ih =>
    intro h
    by_cases h1 : m.length < 64
    · rw [absorb_short h1]
    · rw [absorb_long h1, ih (m.drop 64).length (by rw [List.length_drop]; omega) _ rfl, comp_len]
theorem absorb_append : ∀ (q : Nat) (m c h : List Int), m.length = 64 * q → absorb h (m ++ c) = absorb (absorb h m) c := by
  intro q
  induction q with
  | zero =>
    intro m c h hm
    obtain rfl : m = [] := List.eq_nil_of_length_eq_zero (by omega)
    rw [absorb_short (m := []) (by simp)]; rfl
  | succ q ih =>
    intro m c h hm
    rw [absorb_long (m := m ++ c) (by rw [List.length_append]; omega), absorb_long (m := m) (by omega), List.take_append_of_le_length (by omega), List.drop_append_of_le_length (by omega)]
    exact ih _ _ _ (by rw [List.length_drop]; omega)
theorem absorb_one {h b : List Int} (hb : b.length = 64) : absorb h b = comp h b := by
  rw [absorb_long (by omega), List.take_of_length_le (by omega), List.drop_of_length_le (by omega), absorb_short (by simp)]
def begin8 : List Int := [1779033703, 3144134277, 1013904242, 2773480762, 1359893119, 2600822924, 528734635, 1541459225]
/-- the byte i of a length -/
def lenB (n : Int) (i : Nat) : Int := IntKind.u8.wrap (ishr .u64 (IntKind.u64.wrap (IntKind.u64.wrap n * 8)) (56 - 8 * (i : Int)))
def pad64 (n : Nat) : Nat := (120 - (n + 1) % 64) % 64
/-- what comes behind a message -/
def tailOf (n : Nat) : List Int := 128 :: (List.replicate (pad64 n) 0 ++ [lenB n 0, lenB n 1, lenB n 2, lenB n 3, lenB n 4, lenB n 5, lenB n 6, lenB n 7])
def digB (ws : List Int) (i : Nat) : Int := IntKind.u8.wrap (ishr .u32 (ws.getD (i / 4) 0) (24 - 8 * ((i % 4 : Nat) : Int)))
def digL (ws : List Int) : List Int := (List.range 32).map (digB ws)
/-- the sum of bytes -/
def shaL (m : List Int) : List Int := digL (absorb begin8 (m ++ tailOf m.length))
theorem wrap8_B (x : Int) : 0 ≤ IntKind.u8.wrap x ∧ IntKind.u8.wrap x ≤ 255 := by
  simp [IntKind.wrap, IntKind.signed, IntKind.bits]; omega
theorem shaL_dig (m : List Int) : Dig (shaL m) := by
  refine ⟨by simp [shaL, digL], ?_⟩
  intro x hx
  simp only [shaL, digL, List.mem_map] at hx
  obtain ⟨i, -, rfl⟩ := hx
  exact wrap8_B _
theorem word_sum {a b c d : Int} (ha : 0 ≤ a ∧ a ≤ 255) (hb : 0 ≤ b ∧ b ≤ 255) (hc : 0 ≤ c ∧ c ≤ 255) (hd : 0 ≤ d ∧ d ≤ 255) :
    IntKind.u32.wrap (IntKind.u32.wrap (IntKind.u32.wrap (ishl .u32 (IntKind.u32.wrap a) 24 + ishl .u32 (IntKind.u32.wrap b) 16) + ishl .u32 (IntKind.u32.wrap c) 8) + IntKind.u32.wrap d) =
      ior .u32 (ior .u32 (ior .u32 (ishl .u32 (IntKind.u32.wrap a) 24) (ishl .u32 (IntKind.u32.wrap b) 16)) (ishl .u32 (IntKind.u32.wrap c) 8)) (IntKind.u32.wrap d) := by
  obtain ⟨a, rfl⟩ := Int.eq_ofNat_of_zero_le ha.1
  obtain ⟨b, rfl⟩ := Int.eq_ofNat_of_zero_le hb.1
  obtain ⟨c, rfl⟩ := Int.eq_ofNat_of_zero_le hc.1
  obtain ⟨d, rfl⟩ := Int.eq_ofNat_of_zero_le hd.1
  have sh : ∀ (x k : Nat), x ≤ 255 → k ≤ 24 → ishl .u32 (IntKind.u32.wrap (x : Int)) (k : Int) = ((x * 2 ^ k : Nat) : Int) := by
    intro x k hx hk
    have hp : 2 ^ k ≤ 2 ^ 24 := Nat.pow_le_pow_right (by decide) hk
    have : x * 2 ^ k ≤ 255 * 2 ^ 24 := Nat.mul_le_mul hx hp
    unfold ishl
    rw [wrap32 (n := (x : Int)) (by omega), Int.toNat_natCast, Nat.min_eq_left (by show k ≤ 32; omega)]
    rw [show (x : Int) * 2 ^ k = ((x * 2 ^ k : Nat) : Int) by push_cast; rfl, wrap32 (by omega)]
  have or32 : ∀ (x y : Nat), x < 2 ^ 32 → y < 2 ^ 32 → ior .u32 (x : Int) (y : Int) = ((x ||| y : Nat) : Int) := by
    intro x y hx hy
    have h : x ||| y < 2 ^ 32 := Nat.or_lt_two_pow hx hy
    show IntKind.u32.wrap ((BitVec.ofInt 32 (x : Int) ||| BitVec.ofInt 32 (y : Int)).toNat : Int) = _
    simp only [BitVec.ofInt_natCast, BitVec.toNat_or, BitVec.toNat_ofNat]
    rw [Nat.mod_eq_of_lt hx, Nat.mod_eq_of_lt hy, wrap32 (by omega)]
  have add_or : ∀ (x y k : Nat), y < 2 ^ k → x * 2 ^ k ||| y = x * 2 ^ k + y := by
    intro x y k h
    have := Nat.shiftLeft_add_eq_or_of_lt h x
    rw [Nat.shiftLeft_eq] at this
    exact this.symm
  have e24 := sh a 24 (by omega) (by omega)
  have e16 := sh b 16 (by omega) (by omega)
  have e8 := sh c 8 (by omega) (by omega)
  have ed : IntKind.u32.wrap (d : Int) = (d : Int) := wrap32 (by omega)
  rw [show ((24 : Nat) : Int) = 24 from rfl] at e24
  rw [show ((16 : Nat) : Int) = 16 from rfl] at e16
  rw [show ((8 : Nat) : Int) = 8 from rfl] at e8
  rw [e24, e16, e8, ed]
  have p24 : (2 : Nat) ^ 24 = 16777216 := rfl
  have p16 : (2 : Nat) ^ 16 = 65536 := rfl
  have p8 : (2 : Nat) ^ 8 = 256 := rfl
  have p32 : (2 : Nat) ^ 32 = 4294967296 := rfl
  rw [or32 _ _ (by omega) (by omega), add_or a (b * 2 ^ 16) 24 (by omega)]
  rw [or32 _ _ (by omega) (by omega), show a * 2 ^ 24 + b * 2 ^ 16 = (a * 256 + b) * 2 ^ 16 by omega, add_or (a * 256 + b) (c * 2 ^ 8) 16 (by omega)]
  rw [or32 _ _ (by omega) (by omega), show (a * 256 + b) * 2 ^ 16 + c * 2 ^ 8 = ((a * 256 + b) * 256 + c) * 2 ^ 8 by omega, add_or ((a * 256 + b) * 256 + c) d 8 (by omega)]
  simp only [wrap32_emod]
  omega
end Go.V

/- The padded string, its blocks, and the sum: plain. No program in sight. -/
import Derived.Test.YtipoljcgfcjlnaaGreatDoorDigestP
import Derived.Test.YtipoljcgfcjlnaaGreatDoorGCodecP
namespace Go.Proofs.YtipoljcgfcjlnaaGreatDoor
open Go.RowKit

/-- n blocks of p -/
def absorb (K H : List Int) (p : List UInt8) : Nat → List Int
  | 0 => H
  | n + 1 => blockSum K (absorb K H p n) (p.drop (64 * n))
theorem load_congr {a b : List UInt8} (h : ∀ k, k < 64 → bt a k = bt b k) : ∀ n, n ≤ 16 → load a n = load b n
  | 0, _ => rfl
  | n + 1, hn => by
    simp only [load]
    rw [load_congr h n (by omega)]
    simp only [wordAt]
    rw [h _ (by omega), h _ (by omega), h _ (by omega), h _ (by omega)]
theorem blockSum_congr (K H : List Int) {a b : List UInt8} (h : ∀ k, k < 64 → bt a k = bt b k) : blockSum K H a = blockSum K H b := by
  unfold blockSum
  rw [load_congr h 16 (Nat.le_refl _)]
theorem bt_take (b : List UInt8) (n k : Nat) (h : k < n) : bt (b.take n) k = bt b k := by simp [bt, h]
theorem blockSum_take (K H : List Int) (b : List UInt8) : blockSum K H (b.take 64) = blockSum K H b := blockSum_congr K H fun k hk => bt_take b 64 k hk
theorem blockSum_length (K H : List Int) (b : List UInt8) : (blockSum K H b).length = H.length := by simp [blockSum, addn_length]
theorem absorb_length (K H : List Int) (p : List UInt8) (n : Nat) : (absorb K H p n).length = H.length := by induction n with | zero => rfl | succ n ih => simp [absorb, blockSum_length, ih]
theorem bt_app (a b : List UInt8) (k : Nat) (h : k < a.length) : bt (a ++ b) k = bt a k := by simp [bt, List.getElem?_append_left h]
theorem absorb_left (K H : List Int) (a b : List UInt8) : ∀ n, 64 * n ≤ a.length → absorb K H (a ++ b) n = absorb K H a n
  | 0, _ => rfl
  | n + 1, h => by
    simp only [absorb]
    rw [absorb_left K H a b n (by omega)]
    apply blockSum_congr
    intro k hk
    rw [List.drop_append_of_le_length (by omega), bt_app _ _ _ (by simp; omega)]
theorem absorb_append (K H : List Int) (a b : List UInt8) (m : Nat) (h : a.length = 64 * m) : ∀ n, absorb K H (a ++ b) (m + n) = absorb K (absorb K H a m) b n
  | 0 => absorb_left K H a b m (by omega)
  | n + 1 => by
    rw [← Nat.add_assoc]
    simp only [absorb]
    rw [absorb_append K H a b m h n]
    congr 1
    rw [List.drop_append, List.drop_eq_nil_of_le (by omega), List.nil_append]
    congr 1; omega
/-- byte i, counted from the right, of the number of bits -/
def lenByte (n : Nat) (i : Nat) : UInt8 := UInt8.ofNat (8 * n / 2 ^ (8 * i))
/-- k bytes of the length, of eight, from the left -/
def lenBytes (n : Nat) : Nat → List UInt8
  | 0 => []
  | k + 1 => lenBytes n k ++ [lenByte n (7 - k)]
theorem lenBytes_length (n k : Nat) : (lenBytes n k).length = k := by induction k with | zero => rfl | succ k ih => simp [lenBytes, ih]
def zeros (n : Nat) : Nat := (119 - n % 64) % 64
/-- what follows a string of length n -/
def tailOf (n : Nat) : List UInt8 := 128 :: (List.replicate (zeros n) 0 ++ lenBytes n 8)
def pad (l : List UInt8) : List UInt8 := l ++ tailOf l.length
theorem tailOf_length (n : Nat) : (tailOf n).length = 9 + zeros n := by simp [tailOf, lenBytes_length]; omega
theorem pad_length (l : List UInt8) : (pad l).length = 64 * ((l.length + 9 + zeros l.length) / 64) := by
  simp only [pad, List.length_append, tailOf_length, zeros]
  omega
def blocksOf (n : Nat) : Nat := (n + 9 + zeros n) / 64
/-- the bytes of a word -/
def wbytes (x : Int) : List UInt8 := [UInt8.ofNat (x / 16777216 % 256).toNat, UInt8.ofNat (x / 65536 % 256).toNat, UInt8.ofNat (x / 256 % 256).toNat, UInt8.ofNat (x % 256).toNat]
/-- the bytes of the first n words -/
def outBytes (V : List Int) : Nat → List UInt8
  | 0 => []
  | n + 1 => outBytes V n ++ wbytes (V.getD n 0)
theorem outBytes_length (V : List Int) (n : Nat) : (outBytes V n).length = 4 * n := by induction n with | zero => rfl | succ n ih => simp [outBytes, ih, wbytes]; omega
def KS : List Int := [1116352408, 1899447441, 3049323471, 3921009573, 961987163, 1508970993, 2453635748, 2870763221, 3624381080, 310598401, 607225278, 1426881987, 1925078388, 2162078206, 2614888103, 3248222580, 3835390401, 4022224774, 264347078, 604807628, 770255983, 1249150122, 1555081692, 1996064986, 2554220882, 2821834349, 2952996808, 3210313671, 3336571891, 3584528711, 113926993, 338241895, 666307205, 773529912, 1294757372, 1396182291, 1695183700, 1986661051, 2177026350, 2456956037, 2730485921, 2820302411, 3259730800, 3345764771, 3516065817, 3600352804, 4094571909, 275423344, 430227734, 506948616, 659060556, 883997877, 958139571, 1322822218, 1537002063, 1747873779, 1955562222, 2024104815, 2227730452, 2361852424, 2428436474, 2756734187, 3204031479, 3329325298]
def H0 : List Int := [1779033703, 3144134277, 1013904242, 2773480762, 1359893119, 2600822924, 528734635, 1541459225]
/-- SHA-256 -/
def sha (l : List UInt8) : List UInt8 := outBytes (absorb KS H0 (pad l) (blocksOf l.length)) 8
theorem sha_length (l : List UInt8) : (sha l).length = 32 := outBytes_length _ 8
/-- the same, where the whole blocks are taken first -/
theorem sha_parts (l : List UInt8) (m : Nat) (hm : m = l.length / 64) : sha l = outBytes (absorb KS (absorb KS H0 (l.take (64 * m)) m) (l.drop (64 * m) ++ tailOf l.length) (blocksOf l.length - m)) 8 := by
  rw [sha, pad]
  have h : l ++ tailOf l.length = l.take (64 * m) ++ (l.drop (64 * m) ++ tailOf l.length) := by rw [← List.append_assoc, List.take_append_drop]
  have hb : m ≤ blocksOf l.length := by unfold blocksOf; omega
  rw [h]
  conv => lhs; rw [show blocksOf l.length = m + (blocksOf l.length - m) by omega]
  rw [absorb_append KS H0 _ _ m (by rw [List.length_take]; omega)]
end Go.Proofs.YtipoljcgfcjlnaaGreatDoor
/- Records of a chain: their cells, in plain Lean. -/
namespace Go.Proofs.YtipoljcgfcjlnaaGreatDoor
open Go.RowKit
structure Rec where
  num : Int
  time : Int
  kind : Int
  body : List UInt8
  before : List UInt8
def recC (r : Rec) : List Value := [.int .i64 r.num, .int .i64 r.time, .int .i64 r.kind, .string ⟨r.body.toArray⟩, .string ⟨r.before.toArray⟩]
def recV (r : Rec) : Value := .agg #[.int .i64 r.num, .int .i64 r.time, .int .i64 r.kind, .string ⟨r.body.toArray⟩, .string ⟨r.before.toArray⟩]
def recs (l : List Rec) : List Value := l.flatMap recC
theorem recs_length (l : List Rec) : (recs l).length = l.length * 5 := by
  induction l with
  | nil => rfl
  | cons r l ih => show (recC r ++ recs l).length = _; rw [List.length_append, ih, List.length_cons]; simp [recC]; omega
theorem recs_append (a b : List Rec) : recs (a ++ b) = recs a ++ recs b := by simp [recs]
theorem recs_one (l : List Rec) : ∀ u ∈ recs l, u.oneCell' = true := by
  intro u hu
  obtain ⟨r, _, hr⟩ := List.mem_flatMap.1 hu
  simp [recC] at hr
  rcases hr with rfl | rfl | rfl | rfl | rfl <;> rfl
theorem recs_get {l : List Rec} {k : Nat} {r : Rec} (h : l[k]? = some r) {f : Nat} (hf : f < 5) : (recs l)[k * 5 + f]? = (recC r)[f]? := by
  induction l generalizing k with
  | nil => simp at h
  | cons x l ih =>
    show (recC x ++ recs l)[k * 5 + f]? = _
    have hx : (recC x).length = 5 := rfl
    cases k with
    | zero =>
      simp at h; subst h
      rw [List.getElem?_append_left (by omega)]
      simp
    | succ k =>
      rw [List.getElem?_append_right (by omega), show (k + 1) * 5 + f - (recC x).length = k * 5 + f by rw [hx]; omega]
      exact ih (by simpa using h)
/-- numbers of 64 bits -/
structure Rec.In (r : Rec) : Prop where
  num : -9223372036854775808 ≤ r.num ∧ r.num ≤ 9223372036854775807
  time : -9223372036854775808 ≤ r.time ∧ r.time ≤ 9223372036854775807
  kind : -9223372036854775808 ≤ r.kind ∧ r.kind ≤ 9223372036854775807
/-- the bytes whose sum is the digest -/
def recB (r : Rec) : List UInt8 := putInt r.num ++ putInt r.time ++ putInt r.kind ++ putText r.body ++ putText r.before
def digF (r : Rec) : List UInt8 := sha (recB r)
/-- the digest and the time of the last record -/
def lastF (l : List Rec) : List UInt8 × Int := match l.getLast? with
  | none => ([], 0)
  | some r => (digF r, r.time)
/-- what is wrong with a record that is to be the next one -/
def followsF (l : List Rec) (r : Rec) : Int :=
  if 1024 ≤ l.length ∨ 16384 < r.body.length then 3
  else if r.num ≠ (l.length : Int) ∨ r.before ≠ (lastF l).1 then 15
  else if ¬ (0 ≤ r.time ∧ r.time ≤ 1099511627776) ∨ r.time < (lastF l).2 then 16
  else if ¬ (1 ≤ r.kind ∧ r.kind ≤ 7) then 2
  else 0
/-- the first record behind the first k that is not right -/
def checkFrom (l : List Rec) : Nat → Nat → Int × Int
  | 0, _ => (0, 0)
  | n + 1, k => match l[k]? with
    | none => (0, 0)
    | some r => if followsF (l.take k) r = 0 then checkFrom l n (k + 1) else ((k : Int), followsF (l.take k) r)
def checkF (l : List Rec) : Int × Int := checkFrom l l.length 0
/-- the first k are right -/
def Right (l : List Rec) (k : Nat) : Prop := ∀ i r, i < k → l[i]? = some r → followsF (l.take i) r = 0
theorem Right.zero (l : List Rec) : Right l 0 := fun i r h => by omega
theorem Right.succ {l : List Rec} {k : Nat} {r : Rec} (h : Right l k) (hr : l[k]? = some r) (hf : followsF (l.take k) r = 0) : Right l (k + 1) := fun i x hi hx => by
  by_cases hik : i = k
  · subst hik; rw [hr] at hx; cases hx; exact hf
  · exact h i x (by omega) hx
theorem Right.len {l : List Rec} {k : Nat} (h : Right l k) (hk : k ≤ l.length) : k ≤ 1024 := by
  by_cases h0 : k = 0
  · omega
  · have hl : k - 1 < l.length := by omega
    have := h (k - 1) l[k - 1] (by omega) (List.getElem?_eq_getElem hl)
    unfold followsF at this
    split at this
    · omega
    · rename_i hn
      rw [List.length_take] at hn; omega
theorem checkFrom_right {l : List Rec} (n k : Nat) (h : ∀ i r, k ≤ i → i < k + n → l[i]? = some r → followsF (l.take i) r = 0) : checkFrom l n k = (0, 0) := by
  induction n generalizing k with
  | zero => rfl
  | succ n ih =>
    rw [checkFrom]
    split
    · rfl
    · rename_i r hr
      rw [if_pos (h k r (Nat.le_refl _) (by omega) hr)]
      exact ih (k + 1) (fun i r h1 h2 => h i r (by omega) (by omega))
theorem checkF_right {l : List Rec} (h : Right l l.length) : checkF l = (0, 0) := checkFrom_right _ _ fun i r _ h2 hr => h i r (by omega) hr
theorem checkFrom_no {l : List Rec} (n k m : Nat) (hkm : k ≤ m) (hm : m < k + n) {r : Rec} (hr : l[m]? = some r) (h : ∀ i r, k ≤ i → i < m → l[i]? = some r → followsF (l.take i) r = 0) (hf : followsF (l.take m) r ≠ 0) : checkFrom l n k = ((m : Int), followsF (l.take m) r) := by
  induction n generalizing k with
  | zero => omega
  | succ n ih =>
    rw [checkFrom]
    split
    · rename_i hn
      have := (List.getElem?_eq_some_iff.1 hr).1
      rw [List.getElem?_eq_none_iff] at hn; omega
    · rename_i x hx
      by_cases hkm2 : k = m
      · subst hkm2
        rw [hr] at hx; cases hx
        rw [if_neg hf]
      · rw [if_pos (h k x (Nat.le_refl _) (by omega) hx)]
        exact ih (k + 1) (by omega) (by omega) (fun i r h1 h2 => h i r (by omega) h2)
theorem checkF_no {l : List Rec} {m : Nat} {r : Rec} (hr : l[m]? = some r) (h : Right l m) (hf : followsF (l.take m) r ≠ 0) : checkF l = ((m : Int), followsF (l.take m) r) :=
  checkFrom_no _ _ m (Nat.zero_le _) (by have := (List.getElem?_eq_some_iff.1 hr).1; omega) hr (fun i r _ h2 => h i r h2) hf
theorem lastF_len (l : List Rec) : (lastF l).1.length ≤ 32 := by
  unfold lastF; split
  · simp
  · exact Nat.le_of_eq (sha_length _)
theorem follows_short {l : List Rec} {r : Rec} (h : followsF l r = 0) : r.body.length ≤ 16384 ∧ r.before.length ≤ 32 ∧ 0 ≤ r.time ∧ r.time ≤ 1099511627776 ∧ r.num = (l.length : Int) := by
  unfold followsF at h
  have hl := lastF_len l
  split at h
  · omega
  · split at h
    · omega
    · rename_i h1 h2
      split at h
      · omega
      · rename_i h3
        have hb : r.before = (lastF l).1 := Classical.byContradiction fun hn => h2 (.inr hn)
        rw [hb]
        omega
end Go.Proofs.YtipoljcgfcjlnaaGreatDoor

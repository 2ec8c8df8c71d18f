/- Splitting a text at one byte: a plain function, and that the shelf's splitting is it. No program in sight. -/
import Derived.Lib.SplitLaws
import Derived.Lib.Join
namespace Go.Proofs.YtnppnogmpoigkaaDoor
open Go.Lib

/-- A text's parts between the bytes c. -/
def splitOn (c : UInt8) : List UInt8 → List (List UInt8)
  | [] => [[]]
  | b :: l => if b = c then [] :: splitOn c l else match splitOn c l with
    | p :: ps => (b :: p) :: ps
    | [] => [[b]]

theorem splitOn_ne (c : UInt8) (l : List UInt8) : ∃ p ps, splitOn c l = p :: ps := by
  cases l with
  | nil => exact ⟨[], [], rfl⟩
  | cons b l =>
    unfold splitOn
    split
    · exact ⟨_, _, rfl⟩
    · split <;> exact ⟨_, _, rfl⟩
theorem splitOn_nil (c : UInt8) : splitOn c [] = [[]] := rfl
theorem splitOn_hit (c : UInt8) (l : List UInt8) : splitOn c (c :: l) = [] :: splitOn c l := by rw [splitOn, if_pos rfl]
theorem splitOn_miss {c b : UInt8} (h : b ≠ c) {l p : List UInt8} {ps : List (List UInt8)} (e : splitOn c l = p :: ps) : splitOn c (b :: l) = (b :: p) :: ps := by rw [splitOn, if_neg h, e]
theorem splitOn_length (c : UInt8) : ∀ l : List UInt8, (splitOn c l).length = l.count c + 1
  | [] => rfl
  | b :: l => by
    by_cases h : b = c
    · subst h; rw [splitOn_hit, List.length_cons, splitOn_length b l, List.count_cons_self]
    · obtain ⟨p, ps, e⟩ := splitOn_ne c l
      have := splitOn_length c l
      rw [splitOn_miss h e, List.count_cons_of_ne (by simpa using h), ← this, e]; rfl
/-- No part has the byte. -/
theorem splitOn_free (c : UInt8) : ∀ (l : List UInt8) (p : List UInt8), p ∈ splitOn c l → c ∉ p
  | [], p, h => by simp [splitOn] at h; simp [h]
  | b :: l, p, h => by
    by_cases hb : b = c
    · subst hb
      rw [splitOn_hit] at h
      rcases List.mem_cons.1 h with rfl | h
      · simp
      · exact splitOn_free b l p h
    · obtain ⟨q, ps, e⟩ := splitOn_ne c l
      rw [splitOn_miss hb e] at h
      rcases List.mem_cons.1 h with rfl | h
      · have := splitOn_free c l q (by rw [e]; simp)
        simp [Ne.symm hb, this]
      · exact splitOn_free c l p (by rw [e]; simp [h])
/-- A text without the byte is one part; ahead of the byte stands the first part. -/
theorem splitOn_none (c : UInt8) : ∀ (l : List UInt8), c ∉ l → splitOn c l = [l]
  | [], _ => rfl
  | b :: l, h => by
    have hb : b ≠ c := fun e => h (by simp [e])
    rw [splitOn_miss hb (splitOn_none c l (fun e => h (by simp [e])))]
theorem splitOn_append (c : UInt8) : ∀ (p l : List UInt8), c ∉ p → splitOn c (p ++ c :: l) = p :: splitOn c l
  | [], l, _ => by rw [List.nil_append, splitOn_hit]
  | b :: p, l, h => by
    have hb : b ≠ c := fun e => h (by simp [e])
    rw [List.cons_append, splitOn_miss hb (splitOn_append c p l (fun e => h (by simp [e])))]
/-- The parts, with the byte between, are the text. -/
theorem splitOn_join (c : UInt8) : ∀ l : List UInt8, [c].intercalate (splitOn c l) = l
  | [] => rfl
  | b :: l => by
    obtain ⟨p, ps, e⟩ := splitOn_ne c l
    have ih := splitOn_join c l
    rw [e] at ih
    by_cases hb : b = c
    · subst hb
      rw [splitOn_hit, e]
      simp only [List.intercalate, List.intersperse_cons_cons, List.flatten_cons, List.nil_append, List.cons_append]
      congr 1
    · rw [splitOn_miss hb e]
      cases ps with
      | nil => simp only [List.intercalate, List.intersperse_singleton, List.flatten_cons, List.flatten_nil, List.append_nil] at ih ⊢; rw [ih]
      | cons q ps => simp only [List.intercalate, List.intersperse_cons_cons, List.flatten_cons, List.cons_append] at ih ⊢; rw [ih]
/-- No part is longer than the text. -/
theorem splitOn_le (c : UInt8) : ∀ (l : List UInt8) (p : List UInt8), p ∈ splitOn c l → p.length ≤ l.length
  | [], p, h => by simp [splitOn] at h; simp [h]
  | b :: l, p, h => by
    by_cases hb : b = c
    · subst hb
      rw [splitOn_hit] at h
      rcases List.mem_cons.1 h with rfl | h
      · simp
      · exact Nat.le_succ_of_le (splitOn_le b l p h)
    · obtain ⟨q, ps, e⟩ := splitOn_ne c l
      rw [splitOn_miss hb e] at h
      rcases List.mem_cons.1 h with rfl | h
      · have := splitOn_le c l q (by rw [e]; simp)
        simpa using this
      · exact Nat.le_succ_of_le (splitOn_le c l p (by rw [e]; simp [h]))
/-- Parts without the byte, with the byte between, are split into them. -/
theorem splitOn_of_join (c : UInt8) : ∀ (ps : List (List UInt8)), ps ≠ [] → (∀ p ∈ ps, c ∉ p) → splitOn c ([c].intercalate ps) = ps
  | [], h, _ => absurd rfl h
  | [p], _, h => by
    have : [c].intercalate [p] = p := by simp [List.intercalate]
    rw [this, splitOn_none c p (h p (by simp))]
  | p :: q :: ps, _, h => by
    have : [c].intercalate (p :: q :: ps) = p ++ c :: [c].intercalate (q :: ps) := by simp [List.intercalate]
    rw [this, splitOn_append c p _ (h p (by simp)), splitOn_of_join c (q :: ps) (by simp) (fun x hx => h x (by simp [hx]))]

theorem index_hit_byte (c : UInt8) (l : List UInt8) : index (c :: l) [c] = 0 := by rw [index]; simp [List.isPrefixOf]
theorem index_miss_byte {b c : UInt8} (h : b ≠ c) (l : List UInt8) : index (b :: l) [c] = if index l [c] == -1 then -1 else index l [c] + 1 := by
  have hp : ([c] : List UInt8).isPrefixOf (b :: l) = false := by simp [List.isPrefixOf, Ne.symm h]
  rw [index, hp]; simp
theorem splitK_byte (c : UInt8) : ∀ (l : List UInt8), splitK [c] 0 (l.count c) l = splitOn c l
  | [] => rfl
  | b :: l => by
    by_cases hb : b = c
    · subst hb
      rw [List.count_cons_self, splitK, index_hit_byte, if_neg (by decide), splitOn_hit]
      simp [splitK_byte b l]
    · obtain ⟨p, ps, e⟩ := splitOn_ne c l
      have ih := splitK_byte c l
      rw [List.count_cons_of_ne (by simpa using hb), splitOn_miss hb e]
      rw [e] at ih
      cases hn : l.count c with
      | zero =>
        rw [hn, splitK] at ih
        injection ih with h1 h2
        rw [splitK, h1, h2]
      | succ n =>
        rw [hn] at ih
        unfold splitK at ih ⊢
        rw [index_miss_byte hb]
        have hge := index_ge l [c]
        by_cases hi : index l [c] = -1
        · rw [if_pos (by simpa using hi)] at ih
          rw [if_pos (by simp [hi])]
          injection ih with h1 h2
          rw [h1, h2]
        · rw [if_neg (by simpa using hi)] at ih
          rw [if_neg (by simp [hi]; omega), if_neg (by simpa using hi)]
          obtain ⟨j, hj⟩ : ∃ j : Nat, index l [c] = j := ⟨(index l [c]).toNat, by omega⟩
          rw [hj] at ih ⊢
          injection ih with h1 h2
          have e1 : ((j : Int) + 1).toNat = j + 1 := by omega
          have e2 : ((j : Int)).toNat = j := by omega
          rw [e2] at h1 h2
          rw [e1, ← h1, ← h2]
          simp
/-- What strings.Split hands back. -/
theorem splitB_byte (c : UInt8) (s : ByteArray) : (splitB ⟨#[c]⟩ 0 (countB s ⟨#[c]⟩) s).map (·.data.toList) = splitOn c s.data.toList := by
  rw [splitB_data]
  have : countB s ⟨#[c]⟩ = s.data.toList.count c := by
    show count s.data.toList [c] = _
    rw [count_one]
  rw [this]
  exact splitK_byte c s.data.toList
theorem splitB_bytes (c : UInt8) (s : ByteArray) : splitB ⟨#[c]⟩ 0 (countB s ⟨#[c]⟩) s = (splitOn c s.data.toList).map fun l => ⟨l.toArray⟩ := by
  rw [← splitB_byte c s, List.map_map]
  conv => lhs; rw [← List.map_id (splitB _ _ _ _)]
  exact List.map_congr_left fun x _ => by simp
theorem countB_byte (c : UInt8) (s : ByteArray) : countB s ⟨#[c]⟩ + 1 = (splitOn c s.data.toList).length := by
  have : countB s ⟨#[c]⟩ = s.data.toList.count c := by
    show count s.data.toList [c] = _
    rw [count_one]
  rw [this, splitOn_length]

end Go.Proofs.YtnppnogmpoigkaaDoor

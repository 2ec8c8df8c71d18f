/- The document's answers of layer 1: texts. -/
import Derived.Test.YtnppnogmpoigkaaDoorRef1
import Derived.Test.YtnppnogmpoigkaaDoorEv
namespace Go.Proofs.YtnppnogmpoigkaaDoor
open Go.RowKit Go.Proofs.YtnppnogmpoigkaaDoorW.PrintWords

section
variable {f : UInt8 → UInt8} {l : List UInt8} {k : Nat} {c : UInt8}
theorem half_at (h : l[k]? = some c) : ((l.take k).map f ++ l.drop k)[k]? = some c := by
  have hk := (List.getElem?_eq_some_iff.1 h).1
  rw [List.getElem?_append_right (by simp; omega), List.length_map, List.length_take, Nat.min_eq_left (by omega), Nat.sub_self, List.getElem?_drop, Nat.add_zero]
  exact h
theorem half_same (h : l[k]? = some c) (hf : f c = c) : (l.take k).map f ++ l.drop k = (l.take (k + 1)).map f ++ l.drop (k + 1) := by
  obtain ⟨hk, he⟩ := List.getElem?_eq_some_iff.1 h
  rw [List.take_add_one, h, List.drop_eq_getElem_cons hk, he]
  simp [hf]
theorem half_step (h : l[k]? = some c) : ((l.take k).map f ++ l.drop k).set k (f c) = (l.take (k + 1)).map f ++ l.drop (k + 1) := by
  obtain ⟨hk, he⟩ := List.getElem?_eq_some_iff.1 h
  have e1 : k - ((l.take k).map f).length = 0 := by rw [List.length_map, List.length_take]; omega
  rw [List.set_append_right _ _ (by rw [List.length_map, List.length_take]; omega), e1, List.drop_eq_getElem_cons hk, List.set_cons_zero, List.take_add_one, h]
  simp
end

set_option maxHeartbeats 2000000 in
set_option maxRecDepth 100000 in
theorem ref1_Lower (s : ByteArray) (hs : s.size ≤ 140737488351232) (w : World) : Calls Tryd.prog 49 #[.string s] w fun e w' => e = .returned (.string ⟨(lowL s.data.toList).toArray⟩) ∧ Below w.heap.size w w' := by
  obtain ⟨cap, w4, hcv, hB4, hb4⟩ := ByteBlk.made (P := Tryd.prog) w 9 49 5 s Tryd.underlying9 Tryd.underlying49 Tryd.underlying5
  have hlen : s.data.toList.length = s.size := (size_list s).symm
  obtain ⟨g, hg⟩ : ∃ g, w.heap.size = g := ⟨_, rfl⟩
  rw [hg] at hB4 hcv hb4 ⊢
  have hB4lt := hB4.lt
  clear hg
  go_enter Tryd.func49, Tryd.ntmps49
  go_wp2
  go_loopw [4] (fun i wr => ∃ k : Nat, k ≤ s.size ∧ i = .int .i64 k ∧ ByteBlk wr g 5 ((s.data.toList.take k).map lowC ++ s.data.toList.drop k) ∧ Below g w wr) (fun i _ => s.size - (intOf i).toNat)
  case atStart => exact ⟨0, by omega, rfl, by simpa using hB4, hb4⟩
  case round =>
    obtain ⟨k, hk, rfl, hB5, hb5⟩ := hrel
    clear hB4 hcv
    by_cases hks : k < s.size
    · obtain ⟨c, hc⟩ : ∃ c, s.data.toList[k]? = some c := ⟨_, List.getElem?_eq_getElem (by omega)⟩
      have hlk : k < ((s.data.toList.take k).map lowC ++ s.data.toList.drop k).length := by simp; omega
      have hcell := hB5.cell (half_at hc)
      have hfree := hB5.free hlk
      have hset := hB5.set hlk (lowC c)
      rw [half_step hc] at hset
      have hb6 : ∀ v, Below g w (wr.setCell ⟨g, k, none⟩ v) := fun v => hb5.setCell (Nat.le_refl _) _
      have hcc : Hid (lowC c = c → ByteBlk wr g 5 ((s.data.toList.take (k + 1)).map lowC ++ s.data.toList.drop (k + 1))) := fun h => by rw [← half_same hc h]; exact hB5
      clear hc
      have c256 := c.toNat_lt
      by_cases h1 : 65 ≤ c.toNat
      · by_cases h2 : c.toNat ≤ 90
        · have hw := lowC_wrap c.toNat c256 h1 h2
          rw [UInt8.ofNat_toNat] at hw
          go_wp2
          exact ⟨⟨k + 1, by omega, by go_num, hset, hb6 _⟩, by simp [intOf]; omega⟩
        · go_wp2
          exact ⟨⟨k + 1, by omega, by go_num, hcc.out (lowC_small (by omega)), hb5⟩, by simp [intOf]; omega⟩
      · go_wp2
        exact ⟨⟨k + 1, by omega, by go_num, hcc.out (lowC_small (by omega)), hb5⟩, by simp [intOf]; omega⟩
    · obtain rfl : k = s.size := by omega
      rw [List.take_of_length_le (by omega), List.drop_eq_nil_of_le (by omega), List.append_nil] at hB5
      have hst := hB5.str (P := Tryd.prog) (src := 49) (dst := 9) Tryd.underlying49 Tryd.underlying5 Tryd.underlying9 (n := s.size) (cap := cap) (by rw [List.length_map]; exact hlen)
      go_wp2
      go_ret
      exact ⟨rfl, hb5⟩

set_option maxHeartbeats 1000000 in
theorem ref1_Same (s t : ByteArray) (hs : s.size ≤ 140737488351232) (ht : t.size ≤ 140737488351232) (w : World) :
    Calls Tryd.prog 29 #[.string s, .string t] w fun e w' => e = .returned (.bool (lowL s.data.toList == lowL t.data.toList)) ∧ Below w.heap.size w w' := by
  go_enter Tryd.func29, Tryd.ntmps29
  go_wp2_with fail
  refine (ref1_Lower s hs w).mono ?_
  rintro e w1 ⟨rfl, hb1⟩
  go_wp2_with fail
  refine (ref1_Lower t ht w1).mono ?_
  rintro e w2 ⟨rfl, hb2⟩
  go_wp2
  go_ret
  exact ⟨rfl, below_on hb1 hb1.size hb2⟩

end Go.Proofs.YtnppnogmpoigkaaDoor

/-
  Own work. Plain: lists of keys that rise, of each what it has.
-/
import Derived.Test.YtnlmnejellipdaaXStr
namespace Go.Proofs.Ytnlmnejellipdaa
open Go X
set_option maxRecDepth 100000
set_option linter.unusedVariables false
set_option linter.unusedSimpArgs false
namespace G
section
variable {β : Type} {k : ByteArray} {v w : β} {L A B : List (ByteArray × β)}
abbrev Srt (L : List (ByteArray × β)) : Prop := L.Pairwise fun a b => ltT a.1 b.1
def get (k : ByteArray) (L : List (ByteArray × β)) : Option β := (L.find? fun x => decide (x.1 = k)).map (·.2)
def put (k : ByteArray) (v : β) (L : List (ByteArray × β)) : List (ByteArray × β) := L.filter (fun x => decide (ltT x.1 k)) ++ (k, v) :: L.filter (fun x => decide (ltT k x.1))
def del (k : ByteArray) (L : List (ByteArray × β)) : List (ByteArray × β) := L.filter (fun x => decide (ltT x.1 k)) ++ L.filter (fun x => decide (ltT k x.1))
structure Cut (k : ByteArray) (L A : List (ByteArray × β)) (o : Option β) (B : List (ByteArray × β)) : Prop where
 eq : L = A ++ (o.toList.map fun v => (k, v)) ++ B
 lo : ∀ x ∈ A, ltT x.1 k
 hi : ∀ x ∈ B, ltT k x.1
theorem cut_ex (hs : Srt L) (k : ByteArray) : ∃ A o B, Cut k L A o B := by
 induction L with
 | nil => exact ⟨[], none, [], rfl, by simp, by simp⟩
 | cons y L ih =>
  obtain ⟨h1, h2⟩ := List.pairwise_cons.1 hs
  by_cases hy : ltT y.1 k
  ·obtain ⟨A, o, B, q⟩ := ih h2
   exact ⟨y :: A, o, B, by rw [q.eq]; simp, fun x hx => (List.mem_cons.1 hx).elim (fun e => e ▸ hy) (q.lo x), q.hi⟩
  ·rcases ltT_total hy with e | e
   ·exact ⟨[], some y.2, L, by rw [← e]; rfl, by simp, fun x hx => by rw [← e]; exact h1 x hx⟩
   ·exact ⟨[], none, y :: L, rfl, by simp, fun x hx => (List.mem_cons.1 hx).elim (fun q => q ▸ e) fun q => ltT_trans e (h1 x q)⟩
variable {o : Option β}
theorem filt_lo (h : ∀ x ∈ A, ltT x.1 k) : A.filter (fun x => decide (ltT x.1 k)) = A ∧ A.filter (fun x => decide (ltT k x.1)) = [] :=
 ⟨List.filter_eq_self.2 fun x hx => by simpa using h x hx, List.filter_eq_nil_iff.2 fun x hx => by simpa using ltT_asymm (h x hx)⟩
theorem filt_hi (h : ∀ x ∈ A, ltT k x.1) : A.filter (fun x => decide (ltT k x.1)) = A ∧ A.filter (fun x => decide (ltT x.1 k)) = [] :=
 ⟨List.filter_eq_self.2 fun x hx => by simpa using h x hx, List.filter_eq_nil_iff.2 fun x hx => by simpa using ltT_asymm (h x hx)⟩
theorem Cut.fl (h : Cut k L A o B) : L.filter (fun x => decide (ltT x.1 k)) = A ∧ L.filter (fun x => decide (ltT k x.1)) = B := by
 have hk : ¬ ltT k k := ltT_irrefl k
 rw [h.eq]
 simp only [List.filter_append, (filt_lo h.lo).1, (filt_lo h.lo).2, (filt_hi h.hi).1, (filt_hi h.hi).2]
 cases o <;> simp [hk]
theorem Cut.get (h : Cut k L A o B) : get k L = o := by
 unfold G.get
 have h1 : A.find? (fun x => decide (x.1 = k)) = none := List.find?_eq_none.2 fun x hx => by simpa using ltT_ne (h.lo x hx)
 have h2 : B.find? (fun x => decide (x.1 = k)) = none := List.find?_eq_none.2 fun x hx => by simpa using (ltT_ne (h.hi x hx)).symm
 rw [h.eq, List.find?_append, List.find?_append, h1, h2]
 cases o <;> simp
theorem Cut.put (h : Cut k L A o B) : put k v L = A ++ (k, v) :: B := by
 unfold G.put
 rw [h.fl.1, h.fl.2]
theorem Cut.del (h : Cut k L A o B) : del k L = A ++ B := by
 unfold G.del
 rw [h.fl.1, h.fl.2]
theorem sort_mid (hs : Srt L) (h : Cut k L A o B) : Srt (A ++ (k, v) :: B) ∧ Srt (A ++ B) := by
 rw [h.eq, List.append_assoc] at hs
 obtain ⟨p1, p2, p3⟩ := List.pairwise_append.1 hs
 obtain ⟨p4, p5, p6⟩ := List.pairwise_append.1 p2
 have hab : ∀ a ∈ A, ∀ b ∈ B, ltT a.1 b.1 := fun a ha b hb => ltT_trans (h.lo a ha) (h.hi b hb)
 exact ⟨List.pairwise_append.2 ⟨p1, List.pairwise_cons.2 ⟨fun b hb => h.hi b hb, p5⟩, fun a ha b hb => (List.mem_cons.1 hb).elim (fun e => by rw [e]; exact h.lo a ha) (hab a ha b)⟩, List.pairwise_append.2 ⟨p1, p5, hab⟩⟩
theorem put_sort (hs : Srt L) : Srt (G.put k v L) := by
 obtain ⟨A, o, B, h⟩ := cut_ex hs k
 rw [h.put]; exact (sort_mid hs h).1
theorem del_sort (hs : Srt L) : Srt (G.del k L) := by
 obtain ⟨A, o, B, h⟩ := cut_ex hs k
 rw [h.del]
 rw [h.eq, List.append_assoc] at hs
 obtain ⟨p1, p2, p3⟩ := List.pairwise_append.1 hs
 exact List.pairwise_append.2 ⟨p1, (List.pairwise_append.1 p2).2.1, fun a ha b hb => ltT_trans (h.lo a ha) (h.hi b hb)⟩
def sum (f : ByteArray → β → Int) (L : List (ByteArray × β)) : Int := (L.map fun x => f x.1 x.2).sum
theorem sum_app {f : ByteArray → β → Int} : sum f (A ++ B) = sum f A + sum f B := by simp [sum, List.sum_append]
theorem sum_cons {f : ByteArray → β → Int} {x : ByteArray × β} : sum f (x :: B) = f x.1 x.2 + sum f B := by simp [sum]
theorem Cut.sum {f : ByteArray → β → Int} (h : Cut k L A o B) : G.sum f L = G.sum f A + (o.map (f k)).getD 0 + G.sum f B := by
 rw [h.eq, sum_app, sum_app]
 cases o <;> simp [G.sum]
theorem put_sum {f : ByteArray → β → Int} (hs : Srt L) : G.sum f (G.put k v L) = G.sum f L - ((G.get k L).map (f k)).getD 0 + f k v := by
 obtain ⟨A, o, B, h⟩ := cut_ex hs k
 rw [h.put, h.sum, h.get, sum_app, sum_cons]
 show G.sum f A + (f k v + G.sum f B) = _
 omega
theorem del_sum {f : ByteArray → β → Int} (hs : Srt L) : G.sum f (G.del k L) = G.sum f L - ((G.get k L).map (f k)).getD 0 := by
 obtain ⟨A, o, B, h⟩ := cut_ex hs k
 rw [h.del, h.sum, h.get, sum_app]
 omega
theorem get_put (hs : Srt L) {k' : ByteArray} : G.get k' (G.put k v L) = if k' = k then some v else G.get k' L := by
 obtain ⟨A, o, B, h⟩ := cut_ex hs k
 rw [h.put]
 unfold G.get
 rw [h.eq]
 by_cases e : k' = k
 ·subst e
  rw [if_pos rfl, List.find?_append]
  have h1 : A.find? (fun x => decide (x.1 = k')) = none := List.find?_eq_none.2 fun x hx => by simpa using ltT_ne (h.lo x hx)
  rw [h1]; simp
 ·rw [if_neg e]
  simp only [List.find?_append, List.find?_cons]
  have : ¬ k = k' := fun q => e q.symm
  cases o <;> simp [this]
theorem get_del (hs : Srt L) {k' : ByteArray} : G.get k' (G.del k L) = if k' = k then none else G.get k' L := by
 obtain ⟨A, o, B, h⟩ := cut_ex hs k
 rw [h.del]
 unfold G.get
 rw [h.eq]
 by_cases e : k' = k
 ·subst e
  have h1 : A.find? (fun x => decide (x.1 = k')) = none := List.find?_eq_none.2 fun x hx => by simpa using ltT_ne (h.lo x hx)
  have h2 : B.find? (fun x => decide (x.1 = k')) = none := List.find?_eq_none.2 fun x hx => by simpa using (ltT_ne (h.hi x hx)).symm
  rw [if_pos rfl, List.find?_append, h1, h2]; rfl
 ·rw [if_neg e]
  simp only [List.find?_append, List.find?_cons]
  have : ¬ k = k' := fun q => e q.symm
  cases o <;> simp [this]
theorem get_mem (hs : Srt L) (h : G.get k L = some v) : (k, v) ∈ L := by
 obtain ⟨A, o, B, q⟩ := cut_ex hs k
 rw [q.get] at h
 subst h
 rw [q.eq]; simp
end
end G
end Go.Proofs.Ytnlmnejellipdaa

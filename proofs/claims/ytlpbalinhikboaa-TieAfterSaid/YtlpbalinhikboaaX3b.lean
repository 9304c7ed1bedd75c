/- Reading cells back as data loses nothing. -/
import Derived.Test.YtlpbalinhikboaaX3
namespace Go.X
open Go

def Ref (a b : AV) : Prop := ∀ κ Im w y, AV.rel κ Im w a y → AV.rel κ Im w b y
def RefL (a b : List AV) : Prop := ∀ κ Im w y, AV.rels κ Im w a y → AV.rels κ Im w b y

theorem Ref.refl (a : AV) : Ref a a := fun _ _ _ _ h => h
theorem RefL.refl (a : List AV) : RefL a a := fun _ _ _ _ h => h
theorem RefL.cons {a b : AV} {l m : List AV} (h : Ref a b) (hl : RefL l m) : RefL (a :: l) (b :: m) := by
  intro κ Im w y e
  simp only [AV.rels] at e ⊢
  obtain ⟨y, r, h1, h2, h3⟩ := e
  exact ⟨y, r, h1, h _ _ _ _ h2, hl _ _ _ _ h3⟩

theorem rels_append {κ Im w} : ∀ (l m : List AV) (ys : List Value), AV.rels κ Im w (l ++ m) ys ↔ ∃ a b, ys = a ++ b ∧ AV.rels κ Im w l a ∧ AV.rels κ Im w m b
  | [], m, ys => by
    simp only [List.nil_append, AV.rels]
    exact ⟨fun h => ⟨[], ys, rfl, rfl, h⟩, fun ⟨a, b, h1, h2, h3⟩ => by subst h2; simp at h1; subst h1; exact h3⟩
  | x :: l, m, ys => by
    simp only [List.cons_append, AV.rels]
    constructor
    · rintro ⟨y, r, h1, h2, h3⟩
      obtain ⟨a, b, h4, h5, h6⟩ := (rels_append l m r).1 h3
      exact ⟨y :: a, b, by rw [h1, h4]; rfl, ⟨y, a, rfl, h2, h5⟩, h6⟩
    · rintro ⟨a, b, h1, ⟨y, r, h2, h3, h4⟩, h5⟩
      exact ⟨y, r ++ b, by rw [h1, h2]; rfl, h3, (rels_append l m _).2 ⟨r, b, rfl, h4, h5⟩⟩

theorem RefL.append {a b l m : List AV} (h : RefL a b) (hl : RefL l m) : RefL (a ++ l) (b ++ m) := by
  intro κ Im w y e
  obtain ⟨p, q, h1, h2, h3⟩ := (rels_append _ _ _).1 e
  exact (rels_append _ _ _).2 ⟨p, q, h1, h _ _ _ _ h2, hl _ _ _ _ h3⟩

theorem rels_length {κ Im w} : ∀ (l : List AV) (ys : List Value), AV.rels κ Im w l ys → ys.length = l.length
  | [], _, h => by simp only [AV.rels] at h; simp [h]
  | a :: l, _, h => by
    simp only [AV.rels] at h
    obtain ⟨y, r, rfl, _, h3⟩ := h
    simp [rels_length l r h3]

theorem decInt_law {a : AV} {n : Int} (h : decInt a = some n) : Ref a (i64 n) := by
  unfold decInt at h; split at h <;> first | cases h | skip
  exact Ref.refl _
theorem decU32_law {a : AV} {n : Int} (h : decU32 a = some n) : Ref a (.v (.int .u32 n)) := by
  unfold decU32 at h; split at h <;> first | cases h | skip
  exact Ref.refl _
theorem decU8_law {a : AV} {n : Int} (h : decU8 a = some n) : Ref a (.v (.int .u8 n)) := by
  unfold decU8 at h; split at h <;> first | cases h | skip
  exact Ref.refl _
theorem decBool_law {a : AV} {n : Bool} (h : decBool a = some n) : Ref a (abl n) := by
  unfold decBool at h; split at h <;> first | cases h | skip
  exact Ref.refl _
theorem decRs_law {c : TC} {a : AV} {xs : List c.den} (h : decRs c a = some xs) : Ref a (.rs c xs) := by
  unfold decRs at h; split at h
  · split at h
    · rename_i e; subst e; cases h; exact Ref.refl _
    · cases h
  · cases h
    intro κ Im w y e
    simp only [AV.rel] at e ⊢
    exact ⟨none, 0, e, Nat.le_refl _, fun h => absurd rfl h⟩
  · cases h

theorem decId_law {l : List AV} {x : TieId} (h : decId l = some x) : RefL l (encId x) := by
  simp only [decId] at h
  (repeat' split at h) <;> cases h
  exact .cons (decInt_law ‹_›) (.cons (decInt_law ‹_›) (.cons (decInt_law ‹_›) (.cons (decInt_law ‹_›) (.refl _))))
theorem decHead_law {l : List AV} {x : Head} (h : decHead l = some x) : RefL l (encHead x) := by
  simp only [decHead] at h
  (repeat' split at h) <;> cases h
  exact .cons (decInt_law ‹_›) (.cons (decInt_law ‹_›) (.cons (decInt_law ‹_›) (.cons (decInt_law ‹_›) (.cons (decInt_law ‹_›) (.cons (decInt_law ‹_›) (.refl _))))))
theorem decEdge_law {l : List AV} {x : Edge} (h : decEdge l = some x) : RefL l (encEdge x) := by
  simp only [decEdge] at h
  (repeat' split at h) <;> cases h
  exact .cons (decInt_law ‹_›) (.cons (decInt_law ‹_›) (.cons (decInt_law ‹_›) (.refl _)))
theorem decPrefix_law {l : List AV} {x : Prefix} (h : decPrefix l = some x) : RefL l (encPrefix x) := by
  simp only [decPrefix] at h
  (repeat' split at h) <;> cases h
  exact .cons (decU32_law ‹_›) (.cons (decInt_law ‹_›) (.refl _))
theorem decReach_law {l : List AV} {x : Reach} (h : decReach l = some x) : RefL l (encReach x) := by
  simp only [decReach] at h
  (repeat' split at h) <;> cases h
  exact .cons (decU32_law ‹_›) (.cons (decInt_law ‹_›) (.cons (decInt_law ‹_›) (.refl _)))
theorem decTie_law {l : List AV} {x : Tie} (h : decTie l = some x) : RefL l (encTie x) := by
  simp only [decTie] at h
  (repeat' split at h) <;> cases h
  exact RefL.append (decHead_law ‹_›) (.cons (decInt_law ‹_›) (.cons (decBool_law ‹_›) (.cons (decRs_law ‹decRs .edge _ = _›) (.cons (decRs_law ‹decRs .reach _ = _›) (.refl _)))))
theorem decParent_law {l : List AV} {x : Parent} (h : decParent l = some x) : RefL l (encParent x) := by
  simp only [decParent] at h
  (repeat' split at h) <;> cases h
  exact .cons (decInt_law ‹_›) (.cons (decRs_law ‹_›) (.refl _))
theorem decHop_law {l : List AV} {x : Hop} (h : decHop l = some x) : RefL l (encHop x) := by
  simp only [decHop] at h
  (repeat' split at h) <;> cases h
  exact .cons (decInt_law ‹_›) (.cons (decInt_law ‹_›) (.cons (decRs_law ‹_›) (.refl _)))
theorem decPath_law {l : List AV} {x : Path} (h : decPath l = some x) : RefL l (encPath x) := by
  simp only [decPath] at h
  (repeat' split at h) <;> cases h
  exact .cons (decU32_law ‹_›) (.cons (decInt_law ‹_›) (.cons (decInt_law ‹_›) (.cons (decInt_law ‹_›) (.cons (decRs_law ‹_›) (.refl _)))))
theorem decNot_law {l : List AV} {x : Not} (h : decNot l = some x) : RefL l (encNot x) := by
  simp only [decNot] at h
  (repeat' split at h) <;> cases h
  exact .cons (decU32_law ‹_›) (.cons (decInt_law ‹_›) (.cons (decInt_law ‹_›) (.refl _)))
theorem decJob_law {l : List AV} {x : Job} (h : decJob l = some x) : RefL l (encJob x) := by
  simp only [decJob] at h
  (repeat' split at h) <;> cases h
  exact .cons (decInt_law ‹_›) (.cons (decInt_law ‹_›) (.refl _))
theorem decPiece_law {l : List AV} {x : Piece} (h : decPiece l = some x) : RefL l (encPiece x) := by
  simp only [decPiece] at h
  (repeat' split at h) <;> cases h
  rw [← List.take_append_drop 10 l, ‹l.drop 10 = _›]
  exact RefL.append (decTie_law ‹_›) (.cons (decInt_law ‹_›) (.refl _))
theorem decEntId_law {l : List AV} {x : EntId} (h : decEntId l = some x) : RefL l (encEntId x) := by
  simp only [decEntId] at h
  (repeat' split at h) <;> cases h
  rw [← List.take_append_drop 4 l, ‹l.drop 4 = _›]
  exact RefL.append (decId_law ‹_›) (.cons (decInt_law ‹_›) (.refl _))
theorem decEntHead_law {l : List AV} {x : EntHead} (h : decEntHead l = some x) : RefL l (encEntHead x) := by
  simp only [decEntHead] at h
  (repeat' split at h) <;> cases h
  rw [← List.take_append_drop 6 l, ‹l.drop 6 = _›]
  exact RefL.append (decHead_law ‹_›) (.cons (decInt_law ‹_›) (.refl _))
theorem decLie_law {l : List AV} {x : Lie} (h : decLie l = some x) : RefL l (encLie x) := by
  simp only [decLie] at h
  (repeat' split at h) <;> cases h
  exact .cons (decInt_law ‹_›) (.cons (decInt_law ‹_›) (.cons (decInt_law ‹_›) (.cons (decInt_law ‹_›) (.cons (decInt_law ‹_›) (.cons (decInt_law ‹_›) (.cons (decInt_law ‹_›) (.cons (decInt_law ‹_›)
    (.cons (decInt_law ‹_›) (.cons (decInt_law ‹_›) (.cons (decBool_law ‹_›) (.cons (decBool_law ‹_›) (.refl _))))))))))))
theorem decPacket_law {l : List AV} {x : Packet} (h : decPacket l = some x) : RefL l (encPacket x) := by
  simp only [decPacket] at h
  split at h
  · cases h
  rename_i a l
  (repeat' split at h) <;> cases h
  have e1 : l = l.take 12 ++ ((l.drop 12).take 10 ++ ((l.drop 22).take 4 ++ ((l.drop 26).take 4 ++ l.drop 30))) := by
    have h1 : l.drop 12 = (l.drop 12).take 10 ++ l.drop 22 := by rw [show l.drop 22 = (l.drop 12).drop 10 by simp, List.take_append_drop]
    have h2 : l.drop 22 = (l.drop 22).take 4 ++ l.drop 26 := by rw [show l.drop 26 = (l.drop 22).drop 4 by simp, List.take_append_drop]
    have h3 : l.drop 26 = (l.drop 26).take 4 ++ l.drop 30 := by rw [show l.drop 30 = (l.drop 26).drop 4 by simp, List.take_append_drop]
    rw [← h3, ← h2, ← h1, List.take_append_drop]
  rw [e1, ‹l.drop 30 = _›]
  exact .cons (decInt_law ‹_›) (RefL.append (decLie_law ‹_›) (RefL.append (decTie_law ‹_›) (RefL.append (decId_law ‹_›) (RefL.append (decId_law ‹_›) (.cons (decRs_law ‹_›) (.refl _))))))

theorem TC.dec_law : ∀ {c : TC} {l : List AV} {x : c.den}, c.dec l = some x → RefL l (c.enc x) := by
  intro c l x h
  cases c <;> simp only [TC.dec] at h
  case int => unfold one at h; split at h <;> first | cases h | exact .cons (decInt_law h) (.refl _)
  case bool => unfold one at h; split at h <;> first | cases h | exact .cons (decBool_law h) (.refl _)
  case u32 => unfold one at h; split at h <;> first | cases h | exact .cons (decU32_law h) (.refl _)
  case u8 => unfold one at h; split at h <;> first | cases h | exact .cons (decU8_law h) (.refl _)
  case tieId => exact decId_law h
  case head => exact decHead_law h
  case edge => exact decEdge_law h
  case prefix_ => exact decPrefix_law h
  case reach => exact decReach_law h
  case tie => exact decTie_law h
  case packet => exact decPacket_law h
  case parent => exact decParent_law h
  case hop => exact decHop_law h
  case path => exact decPath_law h
  case not_ => exact decNot_law h
  case job => exact decJob_law h
  case piece => exact decPiece_law h
  case entId => exact decEntId_law h
  case entHead => exact decEntHead_law h
  all_goals cases h

end Go.X

/- What the functions that the law reaches answer. No conditions. -/
import Derived.Test.YtdlkdimkhmpkkaaDoorOwn35
import Derived.Test.YtdlkdimkhmpkkaaDoorOwn18
set_option linter.all false

namespace Go.Own
theorem sb_strs {N : Nat} : ∀ {l : List ByteArray}, sb N (.sl (l.map eS)) → ∀ a ∈ l, a.size ≤ N
  | [], _, _, h => by cases h
  | b :: l, h, a, ha => by
    simp only [sb, List.map_cons, sbLL] at h
    rcases List.mem_cons.1 ha with rfl | ha
    · have := h.1
      simp only [eS, sbL, sb] at this
      exact this.1
    · exact sb_strs (l := l) (by simp only [sb]; exact h.2) a ha
end Go.Own

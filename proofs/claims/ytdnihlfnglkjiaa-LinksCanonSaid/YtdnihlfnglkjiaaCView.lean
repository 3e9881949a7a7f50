/- The links of cells that came in fit their kind. -/
import Derived.Test.YtdnihlfnglkjiaaGlyphView
import Derived.Test.YtdnihlfnglkjiaaRefCanon
namespace Go.Proofs.Ytdnihlfnglkjiaa
open Go.RowKit

theorem fit_of {xs : List Glyph} (h : ∀ x ∈ xs, GWf x) : Fit xs := fun x hx => ⟨x.l.toNat, by obtain ⟨_, _, _, _, _, _, _, _, _, _, h1, _⟩ := h x hx; omega, by obtain ⟨_, _, _, _, _, _, _, _, _, _, h1, h2⟩ := h x hx; omega⟩
end Go.Proofs.Ytdnihlfnglkjiaa

/- The plain law of NodeNone. -/
import Derived.Test.YtffccgnhdpjlaaaGreatDoorQAllxF3
namespace Go.Proofs.YtffccgnhdpjlaaaGreatDoor.Pure
open Go.Proofs.YtffccgnhdpjlaaaGreatDoor.QAll
theorem NodeNone : ∀ (a0 : ByteArray), ∃ k, squelchlaw27_NodeNone.f k a0 = some true := fun a0 => ⟨0, rfl⟩
end Go.Proofs.YtffccgnhdpjlaaaGreatDoor.Pure

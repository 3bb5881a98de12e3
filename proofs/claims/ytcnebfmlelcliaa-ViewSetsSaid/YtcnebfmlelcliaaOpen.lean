/- nothing of its own -/
import Derived.WalkKit
import Derived.ProofKit
import Derived.OpenShut
